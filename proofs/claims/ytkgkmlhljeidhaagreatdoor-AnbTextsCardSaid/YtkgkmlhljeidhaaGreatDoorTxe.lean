/- Part of a proof: the small language, and functions of the program on it. -/
import Derived.Test.YtkgkmlhljeidhaaGreatDoorTxd
import Derived.KernelRfl
set_option linter.unusedSimpArgs false
set_option linter.unusedVariables false
set_option linter.unusedSectionVars false
namespace Go.Ev
open Go
section
variable {b k : Nat}
theorem eqCell_sh {x y : V} : eqCell (V.sh b k x) (V.sh b k y) = eqCell x y := by cases x <;> cases y <;> rfl
theorem eqCellK_sh {c : CK} {x y : V} : eqCellK c (V.sh b k x) (V.sh b k y) = eqCellK c x y := by cases c <;> cases x <;> cases y <;> rfl
theorem eqCells_sh : ∀ {ks : List CK} {xs ys : List V}, eqCells ks (xs.map (V.sh b k)) (ys.map (V.sh b k)) = eqCells ks xs ys
  | [], [], [] => rfl
  | [], [], _ :: _ => rfl
  | [], _ :: _, _ => rfl
  | _ :: _, [], _ => rfl
  | _ :: _, _ :: _, [] => rfl
  | c :: ks, x :: xs, y :: ys => by simp only [List.map_cons, eqCells, eqCellK_sh, eqCells_sh]
theorem eqV_sh {e : EqK} {x y : V} : eqV e (V.sh b k x) (V.sh b k y) = eqV e x y := by
  cases e with
  | agg ks =>
    cases x <;> cases y <;> first | rfl | (simp only [V.sh, eqV, shs_map, eqCells_sh]; done)
  | _ => cases x <;> cases y <;> rfl
theorem evBin_sh0 {op : BinOp} {e : EqK} {x y : V} : eB op e (V.sh b k x) (V.sh b k y) = eB op e x y := by
  have h := @eqV_sh b k e x y
  cases x <;> cases y <;> first | rfl | (simp only [V.sh] at h ⊢; simp only [eB, h]; done)
theorem evBin_res {op : BinOp} {e : EqK} {x y v : V} (h : eB op e x y = some v) : V.rb 0 v = true := by
  unfold eB at h
  split at h
  · split at h
    · split at h <;> cases h; rfl
    · split at h <;> cases h; rfl
    · split at h
      · split at h <;> first | (cases h; rfl) | (split at h <;> cases h; rfl) | cases h
      · cases h
  · split at h <;> first | (cases h; rfl) | (split at h <;> cases h; rfl) | cases h
  · split at h
    · rw [Option.map_eq_some_iff] at h; obtain ⟨a, _, rfl⟩ := h; rfl
    · rw [Option.map_eq_some_iff] at h; obtain ⟨a, _, rfl⟩ := h; rfl
    · cases h
theorem closed_map {x : Option V} (h : ∀ v, x = some v → V.rb 0 v = true) : x.map (V.sh b k) = x := by
  cases x with
  | none => rfl
  | some v => rw [Option.map_some, sh_closed (h v rfl)]
theorem evBin_sh {op : BinOp} {e : EqK} {x y : V} : eB op e (V.sh b k x) (V.sh b k y) = (eB op e x y).map (V.sh b k) := by
  rw [evBin_sh0, closed_map fun v h => evBin_res h]
theorem evUn_sh {op : UnOp} {x : V} : evUn op (V.sh b k x) = (evUn op x).map (V.sh b k) := by cases op <;> cases x <;> rfl
theorem bytesOf_sh : ∀ {l : List V}, bytesOf (l.map (V.sh b k)) = bytesOf l
  | [] => rfl
  | x :: xs => by
    cases x with
    | int j n => cases j <;> simp only [List.map_cons, V.sh, bytesOf, bytesOf_sh]
    | _ => rfl
theorem bound_sh {x : V} {hi : Nat} : bound (V.sh b k x) hi = bound x hi := by cases x <;> rfl
theorem bounds_sh {len : Nat} {lo hi mx : Option V} : bounds len (lo.map (V.sh b k)) (hi.map (V.sh b k)) (mx.map (V.sh b k)) = bounds len lo hi mx := by
  cases lo <;> cases hi <;> cases mx <;> simp only [bounds, Option.map_some, Option.map_none, bound_sh]
theorem evCutS_sh {x : V} {lo hi : Option V} : evCutS (V.sh b k x) (lo.map (V.sh b k)) (hi.map (V.sh b k)) = (evCutS x lo hi).map (V.sh b k) := by
  cases x with
  | str s =>
    have := @bounds_sh b k s.length lo hi none
    simp only [Option.map_none] at this
    simp only [V.sh, evCutS, this, Option.bind_eq_bind]
    cases bounds s.length lo hi none <;> rfl
  | _ => rfl
theorem allc_sh {sz : Nat} {xs : List V} : (xs.map (V.sh b k)).all (fun y => decide (y.cells.length = sz)) = xs.all (fun y => decide (y.cells.length = sz)) := by
  rw [List.all_map]
  congr 1
  funext x
  simp only [Function.comp, cells_sh, List.length_map]
theorem evCut_sh {sz : Nat} {x : V} {lo hi mx : Option V} : evCut sz (V.sh b k x) (lo.map (V.sh b k)) (hi.map (V.sh b k)) (mx.map (V.sh b k)) = (evCut sz x lo hi mx).map (V.sh b k) := by
  cases x with
  | nils =>
    simp only [V.sh, evCut, bounds_sh, Option.bind_eq_bind]
    cases bounds 0 lo hi mx <;> rfl
  | sl xs c =>
    simp only [V.sh, evCut, shs_map, List.length_map, bounds_sh, allc_sh, Option.bind_eq_bind]
    cases bounds xs.length lo hi mx with
    | none => rfl
    | some p =>
      obtain ⟨l, h, m⟩ := p
      simp only [Option.bind_some]
      split
      · simp only [Option.map_some, V.sh, shs_map, List.map_take, List.map_drop]
      · rfl
  | hs o off len s ag =>
    simp only [V.sh, evCut, bounds_sh, Option.bind_eq_bind]
    cases bounds len lo hi mx with
    | none => rfl
    | some p =>
      obtain ⟨l, h, m⟩ := p
      simp only [Option.bind_some]
      split
      · split <;> rfl
      · rfl
  | _ => rfl
theorem evCutA_sh {n sz : Nat} {ag : Bool} {x : V} {lo hi : Option V} : evCutA n sz ag (V.sh b k x) (lo.map (V.sh b k)) (hi.map (V.sh b k)) = (evCutA n sz ag x lo hi).map (V.sh b k) := by
  have := @bounds_sh b k n lo hi none
  simp only [Option.map_none] at this
  unfold evCutA
  rw [this]
  cases bounds n lo hi none with
  | none => rfl
  | some p =>
    obtain ⟨l, h, m⟩ := p
    simp only [Option.bind_eq_bind, Option.bind_some]
    cases x with
    | ptr o off => simp only [V.sh]; split <;> rfl
    | eptr cs off =>
      simp only [V.sh, shs_map, chunks_sh]
      cases chunks ag sz cs (h - l) (off + l * sz) with
      | none => rfl
      | some xs =>
        simp only [Option.map_some, Option.bind_some, okc_sh]
        split
        · simp only [Option.map_some, V.sh, shs_map]
        · rfl
    | _ => rfl
theorem index_sh {x : V} {n : Nat} : index (V.sh b k x) n = index x n := by cases x <;> rfl
theorem evField_sh {ag : Bool} {off sz : Nat} {x : V} : evField ag off sz (V.sh b k x) = (evField ag off sz x).map (V.sh b k) := by
  cases x <;> first | rfl | (simp only [V.sh, evField, shs_map, part_sh]; done)
theorem evFaddr_sh {off : Nat} {x : V} : eF off (V.sh b k x) = (eF off x).map (V.sh b k) := by cases x <;> rfl
theorem evIaddr_sh {sz : Nat} {i x : V} : eI sz (V.sh b k i) (V.sh b k x) = (eI sz i x).map (V.sh b k) := by
  cases x with
  | sl xs c =>
    simp only [V.sh, eI, index_sh, shs_map, List.length_map, List.getElem?_map, Option.bind_eq_bind]
    cases index i xs.length with
    | none => rfl
    | some j =>
      simp only [Option.bind_some]
      cases xs[j]? with
      | none => rfl
      | some e =>
        simp only [Option.map_some, Option.bind_some, cells_sh, List.length_map]
        split
        · simp only [Option.map_some, V.sh, shs_map]
        · rfl
  | hs o off len s ag =>
    simp only [V.sh, eI, index_sh, Option.bind_eq_bind]
    cases index i len with
    | none => rfl
    | some j =>
      simp only [Option.bind_some]
      split <;> rfl
  | _ => rfl
theorem evIaddrA_sh {n sz : Nat} {i x : V} : evIaddrA n sz (V.sh b k i) (V.sh b k x) = (evIaddrA n sz i x).map (V.sh b k) := by
  simp only [evIaddrA, index_sh, Option.bind_eq_bind]
  cases index i n with
  | none => rfl
  | some j => cases x <;> rfl
theorem evIdx_sh {i x : V} : evIdx (V.sh b k i) (V.sh b k x) = (evIdx i x).map (V.sh b k) := by
  cases x with
  | str s =>
    simp only [V.sh, evIdx, index_sh, Option.bind_eq_bind]
    cases index i s.length with
    | none => rfl
    | some j =>
      simp only [Option.bind_some]
      cases s[j]? <;> rfl
  | _ => rfl
theorem evIdxA_sh {n : Nat} {ag : Bool} {sz : Nat} {i x : V} : evIdxA n ag sz (V.sh b k i) (V.sh b k x) = (evIdxA n ag sz i x).map (V.sh b k) := by
  simp only [evIdxA, index_sh, Option.bind_eq_bind]
  cases index i n with
  | none => rfl
  | some j => cases x <;> first | rfl | (simp only [V.sh, shs_map, part_sh, Option.bind_some]; done)
theorem evExtr_sh {i : Nat} {x : V} : eX i (V.sh b k x) = (eX i x).map (V.sh b k) := by
  cases x <;> first | rfl | (simp only [V.sh, eX, shs_map, List.getElem?_map]; done)
theorem evLenS_sh {x : V} : evLenS (V.sh b k x) = (evLenS x).map (V.sh b k) := by cases x <;> rfl
theorem evLen_sh {x : V} : evLen (V.sh b k x) = (evLen x).map (V.sh b k) := by
  cases x <;> first | rfl | (simp only [V.sh, evLen, shs_map, List.length_map, Option.map_some]; done)
theorem evNilc_sh {x : V} : evNilc (V.sh b k x) = (evNilc x).map (V.sh b k) := by cases x <;> rfl
theorem intOf_sh {x : V} : intOf (V.sh b k x) = intOf x := by cases x <;> rfl
theorem mmInt_sh {mx : Bool} : ∀ {xs : List V} {x : V}, mmInt mx (V.sh b k x) (xs.map (V.sh b k)) = (mmInt mx x xs).map (V.sh b k)
  | [], x => rfl
  | y :: ys, x => by
    cases x with
    | int j a =>
      cases y with
      | int i c =>
        have := mmInt_sh (mx := mx) (xs := ys) (x := .int j (if mx then (if c > a then c else a) else (if c < a then c else a)))
        simp only [V.sh] at this
        simp only [List.map_cons, V.sh, mmInt]
        split
        · exact this
        · rfl
      | _ => simp only [List.map_cons, V.sh, mmInt, Option.map_none]
    | _ => simp only [List.map_cons, V.sh, mmInt, Option.map_none]
theorem mfind_sh {x : V} : ∀ {es : List (V × V)}, mfind (V.sh b k x) (es.map fun p => (V.sh b k p.1, V.sh b k p.2)) = (mfind x es).map (Option.map (V.sh b k))
  | [] => rfl
  | (y, z) :: r => by
    simp only [List.map_cons, mfind, eqCell_sh, Option.bind_eq_bind]
    cases eqCell x y with
    | none => rfl
    | some t =>
      simp only [Option.bind_some]
      split
      · rfl
      · exact mfind_sh
theorem mput_sh {x z : V} : ∀ {es : List (V × V)}, mput (V.sh b k x) (V.sh b k z) (es.map fun p => (V.sh b k p.1, V.sh b k p.2)) = (mput x z es).map (List.map fun p => (V.sh b k p.1, V.sh b k p.2))
  | [] => rfl
  | (y, u) :: r => by
    simp only [List.map_cons, mput, eqCell_sh, Option.bind_eq_bind]
    cases eqCell x y with
    | none => rfl
    | some t =>
      simp only [Option.bind_some]
      split
      · rfl
      · rw [mput_sh]
        cases mput x z r <;> rfl
theorem evApp_sh {ag : Bool} {sz bytes : Nat} {x : V} {ys : List V} : evApp ag sz bytes (V.sh b k x) (ys.map (V.sh b k)) = (evApp ag sz bytes x ys).map (V.sh b k) := by
  unfold evApp
  rw [okRow_sh]
  split
  · cases x with
    | nils =>
      simp only [V.sh, List.map_eq_nil_iff, List.length_map]
      split
      · rfl
      · split
        · simp only [Option.map_some, V.sh, shs_map]
        · rfl
    | sl xs c =>
      cases ys with
      | nil => simp only [V.sh, List.map_nil, Option.map_some]
      | cons y ys =>
        simp only [V.sh, List.map_cons, shs_map, allc_sh, List.length_map, List.length_cons]
        split
        · simp only [Option.map_some, V.sh, shs_map, List.map_append, List.map_cons]
        · rfl
    | _ => rfl
  · rfl
end
section
variable {b : Nat} {φ σ : Objs}
theorem evLoad_sh (hb : b ≤ σ.length) {ag : Bool} {sz : Nat} {x : V} : eL (ins b φ σ) ag sz (V.sh b φ.length x) = (eL σ ag sz x).map (V.sh b φ.length) := by
  cases x with
  | ptr o off =>
    simp only [V.sh, eL, oget_sh hb, Option.bind_eq_bind]
    cases Objs.get σ o with
    | none => rfl
    | some cs => simp only [Option.map_some, Option.bind_some, part_sh]
  | eptr cs off => simp only [V.sh, eL, shs_map, part_sh]
  | _ => rfl
theorem rowOf_sh (hb : b ≤ σ.length) {x : V} : rowOf (ins b φ σ) (V.sh b φ.length x) = (rowOf σ x).map (List.map (V.sh b φ.length)) := by
  cases x with
  | sl xs c => simp only [V.sh, rowOf, shs_map, Option.map_some]
  | hs o off len sz ag =>
    simp only [V.sh, rowOf, oget_sh hb, Option.bind_eq_bind]
    cases Objs.get σ o with
    | none => rfl
    | some cs => simp only [Option.map_some, Option.bind_some, chunks_sh]
  | _ => rfl
theorem ofBytes_sh {c k : Nat} {s : List UInt8} : (ofBytes s).map (V.sh c k) = ofBytes s := by
  unfold ofBytes
  rw [List.map_map]
  congr 1
theorem srcOf_sh (hb : b ≤ σ.length) {str : Bool} {x : V} : srcOf str (ins b φ σ) (V.sh b φ.length x) = (srcOf str σ x).map (List.map (V.sh b φ.length)) := by
  cases str with
  | true =>
    cases x with
    | str s => simp only [V.sh, srcOf, if_true, Option.map_some, ofBytes_sh]
    | _ => rfl
  | false => exact rowOf_sh hb
theorem evConv_sh (hb : b ≤ σ.length) {c : Conv} {x : V} : eC (ins b φ σ) c (V.sh b φ.length x) = (eC σ c x).map (V.sh b φ.length) := by
  have hbs : ∀ y : Option (List UInt8), y.map V.str = (y.map V.str).map (V.sh b φ.length) := fun y => by cases y <;> rfl
  cases c with
  | toInt j => cases x <;> rfl
  | same => cases x <;> rfl
  | intStr => cases x <;> rfl
  | strBytes =>
    cases x with
    | str s => simp only [V.sh, eC, Option.map_some, shs_map, ofBytes_sh]
    | _ => rfl
  | bytesStr =>
    cases x with
    | sl xs c => simp only [V.sh, eC, shs_map, bytesOf_sh]; exact hbs _
    | hs o off len sz ag =>
      have := rowOf_sh hb (φ := φ) (x := .hs o off len sz ag)
      simp only [V.sh] at this
      simp only [V.sh, eC, this, Option.bind_eq_bind]
      cases rowOf σ (.hs o off len sz ag) with
      | none => rfl
      | some xs => simp only [Option.map_some, Option.bind_some, bytesOf_sh]; exact hbs _
    | _ => rfl
  | bytesStrN =>
    cases x with
    | sl xs c => simp only [V.sh, eC, shs_map, bytesOf_sh]; exact hbs _
    | _ => rfl
end
def Arg.cl : Arg → Bool
  | .c x => V.rb 0 x
  | _ => true
def oCl : Option Arg → Bool
  | none => true
  | some a => a.cl
def Ins.cl : Ins → Bool
  | .mv x _ | .box x | .loadT x | .nilc x | .un _ x | .conv _ x | .faddr _ x | .field _ _ _ x | .lenS x | .len x | .mkif _ x | .extr x _ | .bytesH x | .mark x | .load _ _ x => x.cl
  | .pick c a b => c.cl && a.cl && b.cl
  | .alloc z => V.rbs 0 z
  | .build z ps => V.rbs 0 z && ps.all fun p => p.2.2.cl
  | .buildSl _ _ _ z ps _ => V.rb 0 z && ps.all fun p => p.2.cl
  | .buildG _ _ _ z ps => V.rb 0 z && ps.all fun p => p.2.cl
  | .store _ p x _ => p.cl && x.cl
  | .bin _ _ x y => x.cl && y.cl
  | .cutS x lo hi => x.cl && oCl lo && oCl hi
  | .cut _ x lo hi mx => x.cl && oCl lo && oCl hi && oCl mx
  | .cutA _ _ _ x lo hi => x.cl && oCl lo && oCl hi
  | .iaddr _ x i | .iaddrA _ _ x i | .idx x i | .idxA _ _ _ x i => x.cl && i.cl
  | .app _ _ _ _ x y _ | .appH _ _ _ _ x y => x.cl && y.cl
  | .call _ az => az.all Arg.cl
  | .callv x az => x.cl && az.all Arg.cl
  | .mkfn _ a c => a.all Arg.cl && c.all Arg.cl
  | .mkSl _ _ _ z l c _ => V.rb 0 z && l.cl && c.cl
  | .mm _ az => az.all Arg.cl
  | .mkmp => true
  | .mset m k x => m.cl && k.cl && x.cl
  | .mget z m k _ => V.rb 0 z && m.cl && k.cl
section
variable {b : Nat} {φ σ : Objs} {A A' : Arg → V}
theorem args_sh {k : Nat} (hA : ∀ a, a.cl = true → A' a = V.sh b k (A a)) : ∀ {az : List Arg}, az.all Arg.cl = true → az.map A' = (az.map A).map (V.sh b k)
  | [], _ => rfl
  | a :: az, h => by
    simp only [List.all_cons, Bool.and_eq_true] at h
    simp only [List.map_cons, hA a h.1, args_sh hA h.2]
theorem oarg_sh {k : Nat} (hA : ∀ a, a.cl = true → A' a = V.sh b k (A a)) {x : Option Arg} (h : oCl x = true) : x.map A' = (x.map A).map (V.sh b k) := by
  cases x with
  | none => rfl
  | some a => simp only [Option.map_some, hA a h]
theorem parts_sh {k : Nat} (hA : ∀ a, a.cl = true → A' a = V.sh b k (A a)) : ∀ {ps : List (Nat × Arg)}, ps.all (fun p => p.2.cl) = true → (ps.map fun p => (p.1, A' p.2)) = (ps.map fun p => (p.1, A p.2)).map fun p => (p.1, V.sh b k p.2)
  | [], _ => rfl
  | p :: ps, h => by
    simp only [List.all_cons, Bool.and_eq_true] at h
    simp only [List.map_cons, hA p.2 h.1, parts_sh hA h.2]
theorem parts3_sh {k : Nat} (hA : ∀ a, a.cl = true → A' a = V.sh b k (A a)) : ∀ {ps : List (Nat × Nat × Arg)}, ps.all (fun p => p.2.2.cl) = true → (ps.map fun p => (p.1, p.2.1, A' p.2.2)) = (ps.map fun p => (p.1, p.2.1, A p.2.2)).map fun p => (p.1, p.2.1, V.sh b k p.2.2)
  | [], _ => rfl
  | p :: ps, h => by
    simp only [List.all_cons, Bool.and_eq_true] at h
    simp only [List.map_cons, hA p.2.2 h.1, parts3_sh hA h.2]
theorem zs_sh {c k : Nat} {z : List V} (h : V.rbs 0 z = true) : z.map (V.sh c k) = z := by rw [← shs_map, shs_closed h]
theorem evPure_sh (hb : b ≤ σ.length) (hA : ∀ a, a.cl = true → A' a = V.sh b φ.length (A a)) {i : Ins} (hi : i.cl = true) : evPure A' (ins b φ σ) i = (evPure A σ i).map (V.sh b φ.length) := by
  cases i with
  | pick c x y =>
    simp only [Ins.cl, Bool.and_eq_true] at hi
    simp only [evPure, hA c hi.1.1, hA x hi.1.2, hA y hi.2]
    cases A c with
    | bool t => cases t <;> rfl
    | _ => rfl
  | build z ps =>
    simp only [Ins.cl, Bool.and_eq_true] at hi
    have h1 := @lay_sh b φ.length (ps.map fun p => (p.1, p.2.1, A p.2.2)) z
    rw [← parts3_sh hA hi.2, zs_sh hi.1] at h1
    simp only [evPure]
    rw [h1]
    cases lay z (ps.map fun p => (p.1, p.2.1, A p.2.2)) with
    | none => rfl
    | some cs => simp only [Option.map_some, V.sh, shs_map]
  | nilc x => simp only [evPure, hA x hi, evNilc_sh]
  | bin op e x y =>
    simp only [Ins.cl, Bool.and_eq_true] at hi
    simp only [evPure, hA x hi.1, hA y hi.2, evBin_sh]
  | un op x => simp only [evPure, hA x hi, evUn_sh]
  | conv c x => simp only [evPure, hA x hi, evConv_sh hb]
  | cutS x lo hi' =>
    simp only [Ins.cl, Bool.and_eq_true] at hi
    simp only [evPure, hA x hi.1.1, oarg_sh hA hi.1.2, oarg_sh hA hi.2, evCutS_sh]
  | cut sz x lo hi' mx =>
    simp only [Ins.cl, Bool.and_eq_true] at hi
    simp only [evPure, hA x hi.1.1.1, oarg_sh hA hi.1.1.2, oarg_sh hA hi.1.2, oarg_sh hA hi.2, evCut_sh]
  | cutA n sz ag x lo hi' =>
    simp only [Ins.cl, Bool.and_eq_true] at hi
    simp only [evPure, hA x hi.1.1, oarg_sh hA hi.1.2, oarg_sh hA hi.2, evCutA_sh]
  | load ag sz x => simp only [evPure, hA x hi, evLoad_sh hb]
  | faddr off x => simp only [evPure, hA x hi, evFaddr_sh]
  | field ag off sz x => simp only [evPure, hA x hi, evField_sh]
  | iaddr sz x i =>
    simp only [Ins.cl, Bool.and_eq_true] at hi
    simp only [evPure, hA x hi.1, hA i hi.2, evIaddr_sh]
  | iaddrA n sz x i =>
    simp only [Ins.cl, Bool.and_eq_true] at hi
    simp only [evPure, hA x hi.1, hA i hi.2, evIaddrA_sh]
  | idx x i =>
    simp only [Ins.cl, Bool.and_eq_true] at hi
    simp only [evPure, hA x hi.1, hA i hi.2, evIdx_sh]
  | idxA n ag sz x i =>
    simp only [Ins.cl, Bool.and_eq_true] at hi
    simp only [evPure, hA x hi.1, hA i hi.2, evIdxA_sh]
  | lenS x => simp only [evPure, hA x hi, evLenS_sh]
  | len x => simp only [evPure, hA x hi, evLen_sh]
  | mkfn f xs ys =>
    simp only [Ins.cl, Bool.and_eq_true] at hi
    simp only [evPure, args_sh hA hi.1, args_sh hA hi.2, Option.map_some, V.sh, shs_map]
  | mkif t x => simp only [evPure, hA x hi, Option.map_some, V.sh]
  | extr x i => simp only [evPure, hA x hi, evExtr_sh]
  | mm mx az =>
    simp only [evPure, args_sh hA hi]
    cases az.map A with
    | nil => rfl
    | cons x r =>
      simp only [List.map_cons, intOf_sh, mmInt_sh]
      split <;> rfl
  | mget z m kk ok =>
    simp only [Ins.cl, Bool.and_eq_true] at hi
    have fin : ∀ r : Option (Option V), (r.map (Option.map (V.sh b φ.length))).bind (fun r => (some (if ok = true then V.tup [r.getD z, .bool r.isSome] else r.getD z) : Option V)) = (r.bind fun r => (some (if ok = true then V.tup [r.getD z, .bool r.isSome] else r.getD z) : Option V)).map (V.sh b φ.length) := by
      intro r
      cases r with
      | none => rfl
      | some r =>
        cases r with
        | none =>
          have hz := sh_closed (b := b) (k := φ.length) hi.1.1
          cases ok
          · simp [hz]
          · simp [hz, V.sh, V.shs]
        | some v => cases ok <;> simp [V.sh, V.shs]
    simp only [evPure, hA m hi.1.2, hA kk hi.2]
    cases A m with
    | nilm => exact fin (some none)
    | mp o =>
      simp only [V.sh, ins_get hb]
      cases σ[o]? with
      | none => rfl
      | some O =>
        cases O with
        | cells cs => rfl
        | mp es =>
          simp only [Option.map_some, O.sh, mfind_sh]
          exact fin _
    | _ => rfl
  | _ => rfl
end
end Go.Ev
set_option linter.unusedSimpArgs false
set_option linter.unusedVariables false
set_option linter.unusedSectionVars false
namespace Go.Ev
open Go
section
variable {b : Nat} {φ : Objs}
def FrR (b : Nat) (φ : Objs) (x' x : Ro) : Prop := x' = x.map (fun p => (V.sh b φ.length p.1, ins b φ p.2)) ∧ ∀ p, x = some p → b ≤ p.2.length
theorem FrR.none : FrR b φ none none := ⟨rfl, fun _ h => by cases h⟩
theorem FrR.some {v : V} {σ : Objs} (h : b ≤ σ.length) : FrR b φ (some (V.sh b φ.length v, ins b φ σ)) (some (v, σ)) := ⟨rfl, fun _ h' => by cases h'; exact h⟩
def FrC (b : Nat) (φ : Objs) (call' call : FuncId → List V → Objs → Ro) : Prop := ∀ f args σ, b ≤ σ.length → FrR b φ (call' f (args.map (V.sh b φ.length)) (ins b φ σ)) (call f args σ)
theorem frR_val {x' x : Option V} {σ : Objs} (hb : b ≤ σ.length) (h : x' = x.map (V.sh b φ.length)) : FrR b φ (x'.bind fun v => Option.some (v, ins b φ σ)) (x.bind fun v => Option.some (v, σ)) := by
  subst h
  cases x with
  | none => exact .none
  | some v => exact .some hb
theorem frR_valn {x' x : Option V} {σ : Objs} (hb : b ≤ σ.length) (h : x' = x.map (V.sh b φ.length)) : FrR b φ (x'.bind fun v => Option.some (v.ng, ins b φ σ)) (x.bind fun v => Option.some (v.ng, σ)) := by
  subst h
  cases x with
  | none => exact .none
  | some v =>
    show FrR b φ (Option.some ((V.sh b φ.length v).ng, ins b φ σ)) (Option.some (v.ng, σ))
    rw [nogr_sh]
    exact .some hb
theorem ins_sh {σ : Objs} (hb : b ≤ σ.length) {call call' : FuncId → List V → Objs → Ro} (hc : FrC b φ call' call) {A A' T T' : Arg → V} (hA : ∀ a, a.cl = true → A' a = V.sh b φ.length (A a)) (hT : ∀ a, a.cl = true → T' a = V.sh b φ.length (T a)) {i : Ins} (hi : i.cl = true) :
    FrR b φ (evIns call' A' T' (ins b φ σ) i) (evIns call A T σ i) := by
  have happ : ∀ x : O, b ≤ (σ ++ [x]).length := fun x => by simp; omega
  have hset : ∀ o (x : O), b ≤ (σ.set o x).length := fun o x => by simpa using hb
  have hp : evPure A' (ins b φ σ) i = (evPure A σ i).map (V.sh b φ.length) := evPure_sh hb hA hi
  have ptr0 : V.ptr (ins b φ σ).length 0 = V.sh b φ.length (.ptr σ.length 0) := by rw [len_ptr hb]; rfl
  cases i with
  | mv x tk =>
    simp only [evIns, hA x hi, hT x hi]
    cases tk <;> exact .some hb
  | alloc z =>
    simp only [evIns]
    split
    · have h1 := ins_app (b := b) (φ := φ) hb (.cells z)
      rw [show (O.cells z).sh b φ.length = .cells z by rw [O.sh, zs_sh hi]] at h1
      rw [h1, ptr0]
      exact .some (happ _)
    · exact .none
  | box x =>
    simp only [evIns, hA x hi, cells_sh, okc_sh, map_nogr_sh]
    split
    · rw [ptr0]
      have h1 := ins_app (b := b) (φ := φ) hb (.cells ((A x).cells.map V.ng))
      rw [show (O.cells ((A x).cells.map V.ng)).sh b φ.length = .cells (((A x).cells.map V.ng).map (V.sh b φ.length)) from rfl] at h1
      rw [h1]
      exact .some (happ _)
    · exact .none
  | buildSl ag sz len z ps h =>
    simp only [Ins.cl, Bool.and_eq_true] at hi
    have h1 := @laySl_sh b φ.length sz (ps.map fun p => (p.1, A p.2)) (List.replicate len z)
    rw [← parts_sh hA hi.2, List.map_replicate, sh_closed hi.1] at h1
    simp only [evIns]
    rw [h1]
    cases laySl sz (List.replicate len z) (ps.map fun p => (p.1, A p.2)) with
    | none => exact .none
    | some xs =>
      simp only [Option.map_some, Option.bind_eq_bind, Option.bind_some, okRow_sh]
      split
      · cases h with
        | true =>
          simp only [if_true, flat_sh, map_nogr_sh]
          have h2 := ins_app (b := b) (φ := φ) hb (.cells ((xs.flatMap V.cells).map V.ng))
          rw [show (O.cells ((xs.flatMap V.cells).map V.ng)).sh b φ.length = .cells (((xs.flatMap V.cells).map V.ng).map (V.sh b φ.length)) from rfl] at h2
          rw [h2, len_ptr hb]
          exact .some (v := .hs σ.length 0 len sz ag) (happ _)
        | false =>
          simp only [Bool.false_eq_true, if_false]
          rw [← shs_map]
          exact .some (v := .sl xs .fx) hb
      · exact .none
  | buildG ag sz len z ps =>
    simp only [Ins.cl, Bool.and_eq_true] at hi
    have h1 := @laySl_sh b φ.length sz (ps.map fun p => (p.1, A p.2)) (List.replicate len z)
    rw [← parts_sh hA hi.2, List.map_replicate, sh_closed hi.1] at h1
    simp only [evIns]
    rw [h1]
    cases laySl sz (List.replicate len z) (ps.map fun p => (p.1, A p.2)) with
    | none => exact .none
    | some xs =>
      simp only [Option.map_some, Option.bind_eq_bind, Option.bind_some, okRow_sh]
      split
      · rw [← shs_map]
        exact .some (v := .sl xs (.gr sz)) hb
      · exact .none
  | mark x =>
    simp only [evIns, hT x hi]
    cases T x with
    | sl xs c =>
      cases c with
      | gr s => exact .some (v := .sl xs .no) hb
      | _ => exact .none
    | _ => exact .none
  | store sz p x tk =>
    simp only [Ins.cl, Bool.and_eq_true] at hi
    have hv : (if tk = true then T' x else A' x) = V.sh b φ.length (if tk = true then T x else A x) := by
      cases tk
      · exact hA x hi.2
      · exact hT x hi.2
    simp only [evIns]
    simp only [hv]
    generalize (if tk = true then T x else A x) = tv
    simp only [hA p hi.1, hA x hi.2]
    cases A p with
    | ptr o off =>
      simp only [V.sh, oget_sh hb, Option.bind_eq_bind]
      cases Objs.get σ o with
      | none => exact .none
      | some cs =>
        simp only [Option.map_some, Option.bind_some, cells_sh, List.length_map, okc_sh]
        split
        · have plain : ∀ w, w = A x → (∀ cs, w ≠ .agg cs) → FrR b φ
              (if (V.sh b φ.length tv).isLk = true then Option.none else Option.some (V.undef, (ins b φ σ).set (rn b φ.length o) (.cells ((cs.map (V.sh b φ.length)).set off (V.sh b φ.length tv)))))
              (if tv.isLk = true then Option.none else Option.some (V.undef, List.set σ o (.cells (cs.set off tv)))) := by
            intro w _ _
            rw [isLk_sh]
            split
            · exact .none
            · rw [← List.map_set]
              have h2 := ins_set (b := b) (φ := φ) hb o (.cells (cs.set off tv))
              rw [show (O.cells (cs.set off tv)).sh b φ.length = .cells ((cs.set off tv).map (V.sh b φ.length)) from rfl] at h2
              rw [h2]
              exact .some (v := .undef) (hset _ _)
          cases hx : A x with
          | agg ds =>
            simp only [V.sh, V.cells, map_nogr_sh, putAt_sh]
            have h2 := ins_set (b := b) (φ := φ) hb o (.cells (putAt cs off (ds.map V.ng)))
            rw [show (O.cells (putAt cs off (ds.map V.ng))).sh b φ.length = .cells ((putAt cs off (ds.map V.ng)).map (V.sh b φ.length)) from rfl] at h2
            rw [h2]
            exact .some (v := .undef) (hset _ _)
          | _ => exact plain _ hx.symm (fun _ h => by cases h)
        · exact .none
    | _ => exact .none
  | loadT x =>
    simp only [evIns, hA x hi]
    cases A x with
    | ptr o off =>
      simp only [V.sh, oget_sh hb, Option.bind_eq_bind]
      cases Objs.get σ o with
      | none => exact .none
      | some cs =>
        simp only [Option.map_some, Option.bind_some, List.getElem?_map]
        cases cs[off]? with
        | none => exact .none
        | some v =>
          simp only [Option.map_some, Option.bind_some]
          cases v with
          | sl xs c =>
            cases c with
            | gr s =>
              simp only [V.sh]
              have h2 := ins_set (b := b) (φ := φ) hb o (.cells (cs.set off (.sl xs .no)))
              rw [show (O.cells (cs.set off (.sl xs .no))).sh b φ.length = .cells ((cs.map (V.sh b φ.length)).set off (.sl (V.shs b φ.length xs) .no)) by rw [O.sh, List.map_set]; rfl] at h2
              rw [h2]
              exact .some (v := .sl xs (.gr s)) (hset _ _)
            | lk => exact .none
            | no => exact .some (v := .sl xs .no) hb
            | fx => exact .some (v := .sl xs .fx) hb
          | ptr o' i => exact .some (v := .ptr o' i) hb
          | eptr cs' i => exact .some (v := .eptr cs' i) hb
          | hs a1 a2 a3 a4 a5 => exact .some (v := .hs a1 a2 a3 a4 a5) hb
          | agg cs' => exact .some (v := .agg cs') hb
          | tup cs' => exact .some (v := .tup cs') hb
          | ifc t x' => exact .some (v := .ifc t x') hb
          | fn f a1 a2 => exact .some (v := .fn f a1 a2) hb
          | mp o' => exact .some (v := .mp o') hb
          | any => exact .some (v := .any) hb
          | undef => exact .some (v := .undef) hb
          | bool x' => exact .some (v := .bool x') hb
          | int j n => exact .some (v := .int j n) hb
          | str s => exact .some (v := .str s) hb
          | nilp => exact .some (v := .nilp) hb
          | nils => exact .some (v := .nils) hb
          | nili => exact .some (v := .nili) hb
          | nilf => exact .some (v := .nilf) hb
          | nilm => exact .some (v := .nilm) hb
    | eptr cs off =>
      simp only [V.sh, shs_map, List.getElem?_map, Option.bind_eq_bind]
      cases cs[off]? with
      | none => exact .none
      | some v =>
        simp only [Option.map_some, Option.bind_some, nogr_sh]
        exact .some hb
    | _ => exact .none
  | app str ag sz bytes x y tk =>
    simp only [Ins.cl, Bool.and_eq_true] at hi
    have hv : (if tk = true then T' x else A' x) = V.sh b φ.length (if tk = true then T x else A x) := by
      cases tk
      · exact hA x hi.1
      · exact hT x hi.1
    simp only [evIns, hv, hA y hi.2, srcOf_sh hb, Option.bind_eq_bind]
    cases srcOf str σ (A y) with
    | none => exact .none
    | some ys =>
      simp only [Option.map_some, Option.bind_some]
      exact frR_val hb evApp_sh
  | appH str ag sz bytes x y =>
    simp only [Ins.cl, Bool.and_eq_true] at hi
    simp only [evIns, hA x hi.1, hA y hi.2, srcOf_sh hb, Option.bind_eq_bind]
    cases srcOf str σ (A y) with
    | none => exact .none
    | some ys =>
      simp only [Option.map_some, Option.bind_some]
      cases ys with
      | nil => exact frR_valn hb (evApp_sh (ys := []))
      | cons y0 ys =>
        have h1 := @evApp_sh b φ.length ag sz bytes (A x) (y0 :: ys)
        simp only [List.map_cons] at h1 ⊢
        rw [h1]
        cases evApp ag sz bytes (A x) (y0 :: ys) with
        | none => exact .none
        | some v =>
          simp only [Option.map_some, Option.bind_some]
          cases v with
          | sl xs c =>
            simp only [V.sh, shs_map, flat_sh, map_nogr_sh, List.length_map]
            have h2 := ins_app (b := b) (φ := φ) hb (.cells ((xs.flatMap V.cells).map V.ng))
            rw [show (O.cells ((xs.flatMap V.cells).map V.ng)).sh b φ.length = .cells (((xs.flatMap V.cells).map V.ng).map (V.sh b φ.length)) from rfl] at h2
            rw [h2, len_ptr hb]
            exact .some (v := .hs σ.length 0 xs.length sz ag) (happ _)
          | _ => exact .none
  | bytesH x =>
    simp only [evIns, hA x hi]
    cases A x with
    | str s =>
      simp only [V.sh]
      have h2 := ins_app (b := b) (φ := φ) hb (.cells (ofBytes s))
      rw [show (O.cells (ofBytes s)).sh b φ.length = .cells (ofBytes s) by rw [O.sh, ofBytes_sh]] at h2
      rw [h2, len_ptr hb]
      exact .some (v := .hs σ.length 0 s.length 1 false) (happ _)
    | _ => exact .none
  | mkSl ag sz bytes z l c h =>
    simp only [Ins.cl, Bool.and_eq_true] at hi
    simp only [evIns, hA l hi.1.2, hA c hi.2, intOf_sh, Option.bind_eq_bind]
    cases intOf (A l) with
    | none => exact .none
    | some l =>
      cases intOf (A c) with
      | none => exact .none
      | some c =>
        simp only [Option.bind_some]
        split
        · cases h with
          | true =>
            simp only [if_true]
            have hz : ((List.replicate c.toNat z).flatMap V.cells).map (V.sh b φ.length) = (List.replicate c.toNat z).flatMap V.cells := by
              rw [← flat_sh, List.map_replicate, sh_closed hi.1.1]
            have h2 := ins_app (b := b) (φ := φ) hb (.cells ((List.replicate c.toNat z).flatMap V.cells))
            rw [show (O.cells ((List.replicate c.toNat z).flatMap V.cells)).sh b φ.length = .cells ((List.replicate c.toNat z).flatMap V.cells) by rw [O.sh, hz]] at h2
            rw [h2, len_ptr hb]
            exact .some (v := .hs σ.length 0 l.toNat sz ag) (happ _)
          | false =>
            simp only [Bool.false_eq_true, if_false]
            have hz : V.sl (List.replicate l.toNat z) (if l = c then .fx else .gr sz) = V.sh b φ.length (.sl (List.replicate l.toNat z) (if l = c then .fx else .gr sz)) := by
              rw [V.sh, shs_map, List.map_replicate, sh_closed hi.1.1]
            refine ⟨?_, fun p hp => by cases hp; exact hb⟩
            show some (V.sl (List.replicate l.toNat z) (if l = c then .fx else .gr sz), ins b φ σ) = some (V.sh b φ.length (V.sl (List.replicate l.toNat z) (if l = c then .fx else .gr sz)), ins b φ σ)
            rw [← hz]
        · exact .none
  | mkmp =>
    simp only [evIns]
    have h2 := ins_app (b := b) (φ := φ) hb (.mp [])
    rw [show (O.mp []).sh b φ.length = .mp [] from rfl] at h2
    rw [h2, len_ptr hb]
    exact .some (v := .mp σ.length) (happ _)
  | mset m kk x =>
    simp only [Ins.cl, Bool.and_eq_true] at hi
    simp only [evIns, hA m hi.1.1, hA kk hi.1.2, hA x hi.2]
    cases A m with
    | mp o =>
      simp only [V.sh, ins_get hb]
      cases σ[o]? with
      | none => exact .none
      | some O =>
        cases O with
        | cells cs => exact .none
        | mp es =>
          simp only [Option.map_some, O.sh, mput_sh, Option.bind_eq_bind]
          cases mput (A kk) (A x) es with
          | none => exact .none
          | some es' =>
            simp only [Option.map_some, Option.bind_some]
            have h2 := ins_set (b := b) (φ := φ) hb o (.mp es')
            rw [show (O.mp es').sh b φ.length = .mp (es'.map fun p => (V.sh b φ.length p.1, V.sh b φ.length p.2)) from rfl] at h2
            rw [h2]
            exact .some (v := .undef) (hset _ _)
    | _ => exact .none
  | call f az =>
    simp only [evIns, args_sh hA hi]
    exact hc f _ σ hb
  | callv x az =>
    simp only [Ins.cl, Bool.and_eq_true] at hi
    simp only [evIns, hA x hi.1, args_sh hA hi.2]
    cases A x with
    | fn f first caps =>
      simp only [V.sh, shs_map, ← List.map_append, map_nogr_sh]
      exact hc f _ σ hb
    | _ => exact .none
  | conv c x =>
    cases c with
    | strBytes =>
      simp only [evIns, hA x hi, Option.bind_eq_bind]
      exact frR_val hb (evConv_sh hb)
    | _ => exact frR_valn hb hp
  | _ => exact frR_valn hb hp
end
section
variable {b : Nat} {φ : Objs} {G : GV} {call call' : FuncId → List V → Objs → Ro}
def GCl (G : GV) : Prop := ∀ n, V.rb 0 (G n) = true
theorem argT_sh (hG : GCl G) {ρ : List V} {k : Nat} {a : Arg} (h : a.cl = true) : argT G (ρ.map (V.sh b k)) a = V.sh b k (argT G ρ a) := by
  cases a with
  | t n =>
    simp only [argT, List.getD_eq_getElem?_getD, List.getElem?_map]
    cases ρ[n]? <;> rfl
  | c x => exact (sh_closed h).symm
  | g n => exact (sh_closed (hG n)).symm
  | f id => rfl
theorem arg_sh (hG : GCl G) {ρ : List V} {k : Nat} {a : Arg} (h : a.cl = true) : arg G (ρ.map (V.sh b k)) a = V.sh b k (arg G ρ a) := by
  unfold arg
  rw [argT_sh hG h, nogr_sh]
theorem getD_sh {ρ : List V} {k n : Nat} : (ρ.map (V.sh b k)).getD n .undef = V.sh b k (ρ.getD n .undef) := by
  simp only [List.getD_eq_getElem?_getD, List.getElem?_map]
  cases ρ[n]? <;> rfl
theorem put_sh {ρ : List V} {k : Nat} {d : Option Nat} {x : V} : put (ρ.map (V.sh b k)) d (V.sh b k x) = (put ρ d x).map (V.sh b k) := by
  cases d <;> simp [put, List.map_set]
theorem unslot_sh {ρ : List V} {k : Nat} {x : Arg} {tk : Bool} : unslot (ρ.map (V.sh b k)) x tk = (unslot ρ x tk).map (V.sh b k) := by
  cases x <;> cases tk <;> simp only [unslot, List.map_set, getD_sh, nogr_sh]
def FrS (b : Nat) (φ : Objs) (x' x : Option (List V × Objs)) : Prop := x' = x.map (fun p => (p.1.map (V.sh b φ.length), ins b φ p.2)) ∧ ∀ p, x = some p → b ≤ p.2.length
theorem FrS.none : FrS b φ none none := ⟨rfl, fun _ h => by cases h⟩
theorem FrS.some {ρ : List V} {σ : Objs} (h : b ≤ σ.length) : FrS b φ (some (ρ.map (V.sh b φ.length), ins b φ σ)) (some (ρ, σ)) := ⟨rfl, fun _ h' => by cases h'; exact h⟩
theorem FrS.bind {x' x : Option (List V × Objs)} {f' f : List V × Objs → Option (List V × Objs)} (h : FrS b φ x' x) (hf : ∀ ρ σ, b ≤ σ.length → FrS b φ (f' (ρ.map (V.sh b φ.length), ins b φ σ)) (f (ρ, σ))) : FrS b φ (x'.bind f') (x.bind f) := by
  obtain ⟨rfl, h2⟩ := h
  cases x with
  | none => exact .none
  | some p => exact hf p.1 p.2 (h2 p rfl)
theorem ev1_sh (hG : GCl G) (hc : FrC b φ call' call) {s : Step} (hs : s.ins.cl = true) {ρ : List V} {σ : Objs} (hb : b ≤ σ.length) : FrS b φ (ev1 G call' s (ρ.map (V.sh b φ.length)) (ins b φ σ)) (ev1 G call s ρ σ) := by
  unfold ev1
  have h := ins_sh hb hc (A := arg G ρ) (A' := arg G (ρ.map (V.sh b φ.length))) (T := argT G ρ) (T' := argT G (ρ.map (V.sh b φ.length))) (fun a ha => arg_sh hG ha) (fun a ha => argT_sh hG ha) hs
  obtain ⟨h1, h2⟩ := h
  rw [h1]
  cases he : evIns call (arg G ρ) (argT G ρ) σ s.ins with
  | none => exact .none
  | some p =>
    simp only [Option.map_some, Option.bind_eq_bind, Option.bind_some, unslot_sh, put_sh]
    exact .some (h2 p he)
theorem wanted_sh {ρ : List V} {k : Nat} {g : Option (Nat × Bool)} : wanted (ρ.map (V.sh b k)) g = wanted ρ g := by
  cases g with
  | none => rfl
  | some p =>
    obtain ⟨g, t⟩ := p
    simp only [wanted, getD_sh]
    cases ρ.getD g .undef <;> rfl
theorem step_sh (hG : GCl G) (hc : FrC b φ call' call) {s : Step} (hs : s.ins.cl = true) {ρ : List V} {σ : Objs} (hb : b ≤ σ.length) : FrS b φ (evStep G call' s (ρ.map (V.sh b φ.length)) (ins b φ σ)) (evStep G call s ρ σ) := by
  unfold evStep
  rw [wanted_sh]
  cases wanted ρ s.gd with
  | none => exact .none
  | some t =>
    simp only [Option.bind_eq_bind, Option.bind_some]
    split
    · exact ev1_sh hG hc hs hb
    · have : put (ρ.map (V.sh b φ.length)) s.dst .undef = (put ρ s.dst .undef).map (V.sh b φ.length) := put_sh (x := .undef)
      rw [this]
      exact .some hb
theorem steps_sh (hG : GCl G) (hc : FrC b φ call' call) : ∀ {l : List Step}, l.all (fun s => s.ins.cl) = true → ∀ {ρ : List V} {σ : Objs}, b ≤ σ.length → FrS b φ (evSteps G call' l (ρ.map (V.sh b φ.length)) (ins b φ σ)) (evSteps G call l ρ σ)
  | [], _, ρ, σ, hb => .some hb
  | s :: r, h, ρ, σ, hb => by
    simp only [List.all_cons, Bool.and_eq_true] at h
    exact FrS.bind (step_sh hG hc h.1 hb) fun ρ' σ' hb' => steps_sh hG hc h.2 hb'
def Rd.sh (b k : Nat) : Rd → Rd
  | .none => .none
  | .same ex o off n => .same ex (rn b k o) off n
  | .made o => .made (rn b k o)
  | .took o off => .took (rn b k o) off
theorem reads_sh {A A' : Arg → V} {σ : Objs} (hb : b ≤ σ.length) (hA : ∀ a, a.cl = true → A' a = V.sh b φ.length (A a)) {i : Ins} (hi : i.cl = true) : reads A' (ins b φ σ) i = (reads A σ i).sh b φ.length := by
  cases i with
  | load ag sz x =>
    simp only [reads, hA x hi]
    cases A x <;> rfl
  | loadT x =>
    simp only [reads, hA x hi]
    cases A x with
    | ptr o off =>
      simp only [V.sh, oget_sh hb]
      cases Objs.get σ o with
      | none => rfl
      | some cs =>
        simp only [Option.map_some, Option.bind_some, List.getElem?_map]
        cases cs[off]? with
        | none => rfl
        | some v =>
          cases v with
          | sl xs c => cases c <;> rfl
          | _ => rfl
    | _ => rfl
  | alloc z => simp only [reads, len_ptr hb]; rfl
  | box x => simp only [reads, len_ptr hb]; rfl
  | _ => rfl
theorem beqs_map {k : Nat} {l m : List V} : V.beqs (l.map (V.sh b k)) (m.map (V.sh b k)) = V.beqs l m := by rw [← shs_map, ← shs_map, beqs_sh]
theorem stable_sh {σ σ' : Objs} (hb : b ≤ σ.length) (hb' : b ≤ σ'.length) {r : Rd} : stable (ins b φ σ) (ins b φ σ') (r.sh b φ.length) = stable σ σ' r := by
  cases r with
  | none => rfl
  | took o off => rfl
  | same ex o off n =>
    simp only [Rd.sh, stable, oget_sh hb, oget_sh hb']
    cases Objs.get σ o with
    | none => rfl
    | some cs =>
      cases Objs.get σ' o with
      | none => rfl
      | some ds =>
        simp only [Option.map_some, List.length_map, ← List.map_drop, ← List.map_take, map_nogr_sh, beqs_map]
  | made o =>
    simp only [Rd.sh, stable, oget_sh hb, oget_sh hb']
    cases Objs.get σ o with
    | none => rfl
    | some cs =>
      cases Objs.get σ' o with
      | none => rfl
      | some ds => simp only [Option.map_some, beqs_map]
def FrO (b : Nat) (φ : Objs) (x' x : Option Objs) : Prop := x' = x.map (ins b φ) ∧ ∀ σ, x = some σ → b ≤ σ.length
theorem lockC_sh : ∀ {l : List (Nat × Nat)} {σ : Objs}, b ≤ σ.length → FrO b φ (lockC (ins b φ σ) (l.map fun p => (rn b φ.length p.1, p.2))) (lockC σ l)
  | [], σ, hb => ⟨rfl, fun _ h => by cases h; exact hb⟩
  | (o, off) :: r, σ, hb => by
    simp only [List.map_cons, lockC, oget_sh hb]
    cases Objs.get σ o with
    | none => exact ⟨rfl, fun _ h => by cases h⟩
    | some cs =>
      simp only [Option.map_some, List.getElem?_map]
      cases cs[off]? with
      | none => exact ⟨rfl, fun _ h => by cases h⟩
      | some v =>
        cases v with
        | sl xs c =>
          simp only [Option.map_some, V.sh]
          have h2 := ins_set (b := b) (φ := φ) hb o (.cells (cs.set off (.sl xs .lk)))
          rw [show (O.cells (cs.set off (.sl xs .lk))).sh b φ.length = .cells ((cs.map (V.sh b φ.length)).set off (.sl (V.shs b φ.length xs) .lk)) by rw [O.sh, List.map_set]; rfl] at h2
          rw [h2]
          exact lockC_sh (by simpa using hb)
        | _ => exact ⟨rfl, fun _ h => by cases h⟩
theorem openC_sh : ∀ {l : List (Nat × Nat)} {σ : Objs}, b ≤ σ.length → FrO b φ (openC (ins b φ σ) (l.map fun p => (rn b φ.length p.1, p.2))) (openC σ l)
  | [], σ, hb => ⟨rfl, fun _ h => by cases h; exact hb⟩
  | (o, off) :: r, σ, hb => by
    simp only [List.map_cons, openC, oget_sh hb]
    cases Objs.get σ o with
    | none => exact ⟨rfl, fun _ h => by cases h⟩
    | some cs =>
      simp only [Option.map_some, List.getElem?_map]
      cases cs[off]? with
      | none => exact ⟨rfl, fun _ h => by cases h⟩
      | some v =>
        cases v with
        | sl xs c =>
          cases c with
          | lk =>
            simp only [Option.map_some, V.sh]
            have h2 := ins_set (b := b) (φ := φ) hb o (.cells (cs.set off (.sl xs .no)))
            rw [show (O.cells (cs.set off (.sl xs .no))).sh b φ.length = .cells ((cs.map (V.sh b φ.length)).set off (.sl (V.shs b φ.length xs) .no)) by rw [O.sh, List.map_set]; rfl] at h2
            rw [h2]
            exact openC_sh (by simpa using hb)
          | _ => exact ⟨rfl, fun _ h => by cases h⟩
        | _ => exact ⟨rfl, fun _ h => by cases h⟩
theorem cell_sh {l : List Rd} {k : Nat} : (l.map (Rd.sh b k)).filterMap Rd.cell = (l.filterMap Rd.cell).map fun p => (rn b k p.1, p.2) := by
  induction l with
  | nil => rfl
  | cons r l ih => cases r <;> simp [Rd.sh, List.filterMap_cons, Rd.cell, ih]
theorem pastD_sh {past : List Rd} {k n : Nat} : (past.map (Rd.sh b k)).getD n .none = (past.getD n .none).sh b k := by
  simp only [List.getD_eq_getElem?_getD, List.getElem?_map]
  cases past[n]? <;> rfl
theorem drw_sh (hG : GCl G) (hc : FrC b φ call' call) : ∀ {l : List DS}, l.all (fun d => d.s.ins.cl) = true → ∀ {past : List Rd} {ρ : List V} {σ : Objs}, b ≤ σ.length → FrS b φ (evDrw G call' (past.map (Rd.sh b φ.length)) l (ρ.map (V.sh b φ.length)) (ins b φ σ)) (evDrw G call past l ρ σ)
  | [], _, past, ρ, σ, hb => .some hb
  | d :: r, h, past, ρ, σ, hb => by
    simp only [List.all_cons, Bool.and_eq_true] at h
    have hseen : (d.un.map fun k => (past.map (Rd.sh b φ.length)).getD k .none) = (d.un.map fun k => past.getD k .none).map (Rd.sh b φ.length) := by
      rw [List.map_map]
      congr 1
      funext k
      exact pastD_sh
    simp only [evDrw, hseen, cell_sh, wanted_sh, Option.bind_eq_bind]
    obtain ⟨e0, l0⟩ := lockC_sh (φ := φ) (l := (d.un.map fun k => past.getD k .none).filterMap Rd.cell) hb
    rw [e0]
    cases h0 : lockC σ ((d.un.map fun k => past.getD k .none).filterMap Rd.cell) with
    | none => exact .none
    | some σ0 =>
      simp only [Option.map_some, Option.bind_some]
      obtain ⟨e1, l1⟩ := step_sh hG hc h.1 (ρ := ρ) (l0 σ0 h0)
      rw [e1]
      cases h1 : evStep G call d.s ρ σ0 with
      | none => exact .none
      | some p =>
        obtain ⟨ρ', σ1⟩ := p
        simp only [Option.map_some, Option.bind_some]
        obtain ⟨e2, l2⟩ := openC_sh (φ := φ) (l := (d.un.map fun k => past.getD k .none).filterMap Rd.cell) (l1 _ h1)
        rw [e2]
        cases h2 : openC σ1 ((d.un.map fun k => past.getD k .none).filterMap Rd.cell) with
        | none => exact .none
        | some σ' =>
          simp only [Option.map_some, Option.bind_some]
          have hst : ((d.un.map fun k => past.getD k .none).map (Rd.sh b φ.length)).all (stable (ins b φ σ) (ins b φ σ')) = (d.un.map fun k => past.getD k .none).all (stable σ σ') := by
            rw [List.all_map]
            congr 1
            funext r
            exact stable_sh hb (l2 _ h2)
          rw [hst]
          split
          · have hp : (past.map (Rd.sh b φ.length)) ++ [if (wanted ρ d.s.gd).getD false = true then reads (arg G (ρ.map (V.sh b φ.length))) (ins b φ σ) d.s.ins else .none] = (past ++ [if (wanted ρ d.s.gd).getD false = true then reads (arg G ρ) σ d.s.ins else .none]).map (Rd.sh b φ.length) := by
              rw [List.map_append, List.map_singleton, reads_sh hb (fun a ha => arg_sh hG ha) h.1]
              congr 2
              split <;> rfl
            rw [hp]
            exact drw_sh hG hc h.2 (l2 _ h2)
          · exact .none
def FrW (b : Nat) (φ : Objs) : Prop := φ.all (O.rb (b + φ.length)) = true
mutual
theorem rb_le {n m : Nat} (h : n ≤ m) : ∀ {x : V}, V.rb n x = true → V.rb m x = true
  | .ptr o off, hx => by simp [V.rb] at hx ⊢; omega
  | .hs o off len sz ag, hx => by simp [V.rb] at hx ⊢; omega
  | .mp o, hx => by simp [V.rb] at hx ⊢; omega
  | .eptr cs off, hx => rbs_le h (l := cs) hx
  | .sl xs c, hx => rbs_le h (l := xs) hx
  | .agg cs, hx => rbs_le h (l := cs) hx
  | .tup cs, hx => rbs_le h (l := cs) hx
  | .ifc t x, hx => rb_le h (x := x) hx
  | .fn f xs ys, hx => by
    have h' : V.rbs n xs = true ∧ V.rbs n ys = true := by simpa [V.rb] using hx
    simp [V.rb, rbs_le h h'.1, rbs_le h h'.2]
  | .any, _ => rfl | .undef, _ => rfl | .bool x, _ => rfl | .int j n, _ => rfl | .str s, _ => rfl
  | .nilp, _ => rfl | .nils, _ => rfl | .nili, _ => rfl | .nilf, _ => rfl | .nilm, _ => rfl
theorem rbs_le {n m : Nat} (h : n ≤ m) : ∀ {l : List V}, V.rbs n l = true → V.rbs m l = true
  | [], _ => rfl
  | x :: xs, hx => by
    rw [rbs_cons, Bool.and_eq_true] at hx
    rw [rbs_cons, rb_le h hx.1, rbs_le h hx.2]; rfl
end
theorem O.rb_mono {n m : Nat} (h : n ≤ m) {o : O} (ho : o.rb n = true) : o.rb m = true := by
  have hv : ∀ x : V, V.rb n x = true → V.rb m x = true := fun x hx => rb_le h hx
  have hl : ∀ l : List V, V.rbs n l = true → V.rbs m l = true := fun l hx => rbs_le h hx
  cases o with
  | cells cs => exact hl _ ho
  | mp es =>
    simp only [O.rb, Bool.and_eq_true] at ho ⊢
    exact ⟨hl _ ho.1, hl _ ho.2⟩
end
end Go.Ev
set_option linter.unusedSimpArgs false
set_option linter.unusedVariables false
set_option linter.unusedSectionVars false
namespace Go.Ev
open Go
section
variable {b : Nat} {φ : Objs}
theorem take_ins {σ : Objs} {n : Nat} (hb : b ≤ σ.length) (hn : b ≤ n) : (ins b φ σ).take (n + φ.length) = ins b φ (σ.take n) := by
  unfold ins
  rw [List.take_append, List.take_append]
  simp only [List.length_append, List.length_take, List.length_map, List.map_take]
  rw [List.take_take, List.take_take, List.take_of_length_le (l := φ) (by omega), List.drop_take]
  congr 2
  · congr 1; omega
  · omega
theorem fzO_sh {σ : Objs} {n : Nat} (hb : b ≤ σ.length) (hn : b ≤ n) {o : O} : fzO (n + φ.length) (ins b φ σ) (o.sh b φ.length) = (fzO n σ o).map (O.sh b φ.length) := by
  cases o with
  | cells cs =>
    simp only [O.sh, fzO]
    rw [← shs_map, rbs_sh hn]
    split
    · simp only [Option.map_some, O.sh, shs_map]
    · rw [shs_map, mapM_sh fun x => fz_sh hb hn]
      cases cs.mapM (fz n σ fzD) <;> rfl
  | mp es =>
    have h1 : (es.map fun p => (V.sh b φ.length p.1, V.sh b φ.length p.2)).map Prod.fst = V.shs b φ.length (es.map Prod.fst) := by rw [shs_map, List.map_map, List.map_map]; rfl
    have h2 : (es.map fun p => (V.sh b φ.length p.1, V.sh b φ.length p.2)).map Prod.snd = V.shs b φ.length (es.map Prod.snd) := by rw [shs_map, List.map_map, List.map_map]; rfl
    simp only [O.sh, fzO, h1, h2, rbs_sh hn]
    split <;> rfl
theorem mapMO_sh {f g : O → Option O} {k : Nat} (h : ∀ x, g (O.sh b k x) = (f x).map (O.sh b k)) : ∀ {l : List O}, (l.map (O.sh b k)).mapM g = (l.mapM f).map (List.map (O.sh b k))
  | [] => rfl
  | x :: xs => by
    simp only [List.map_cons, List.mapM_cons, h, mapMO_sh h, Option.bind_eq_bind]
    cases f x with
    | none => rfl
    | some y =>
      simp only [Option.map_some, Option.bind_some]
      cases xs.mapM f <;> rfl
theorem mapMO_id {g : O → Option O} : ∀ {l : List O}, (∀ x ∈ l, g x = some x) → l.mapM g = some l
  | [], _ => rfl
  | x :: xs, h => by
    rw [List.mapM_cons, h x (by simp), mapMO_id fun y hy => h y (by simp [hy])]
    rfl
theorem mapM_app {g : O → Option O} {A B : List O} : (A ++ B).mapM g = (A.mapM g).bind fun a => (B.mapM g).bind fun c => some (a ++ c) := by
  rw [List.mapM_append]; rfl
theorem mapM_len {g : O → Option O} : ∀ {A a : List O}, A.mapM g = some a → a.length = A.length
  | [], a, h => by cases h; rfl
  | x :: xs, a, h => by
    simp only [List.mapM_cons, Option.bind_eq_bind, Option.bind_eq_some_iff] at h
    obtain ⟨y, _, ys, hys, he⟩ := h
    cases he
    simp [mapM_len hys]
theorem cutO_sh (hφ : FrW b φ) {σ : Objs} {n : Nat} (hb : b ≤ σ.length) (hn : b ≤ n) : FrO b φ (cuO (n + φ.length) (ins b φ σ)) (cuO n σ) := by
  have hlen : ∀ τ, cuO n σ = some τ → b ≤ τ.length := by
    intro τ h
    have := mapM_len (g := fzO n σ) h
    rw [this, List.length_take]; omega
  refine ⟨?_, hlen⟩
  have hid : φ.mapM (fzO (n + φ.length) (ins b φ σ)) = some φ := by
    refine mapMO_id fun x hx => fzO_rb ?_
    have := List.all_eq_true.1 hφ x hx
    exact O.rb_mono (by omega) this
  unfold cuO
  rw [take_ins hb hn]
  have hτ : b ≤ (σ.take n).length := by rw [List.length_take]; omega
  generalize hgen : σ.take n = τ at hτ
  have h1 := @mapMO_sh b (fzO n σ) (fzO (n + φ.length) (ins b φ σ)) φ.length (fun x => fzO_sh hb hn) τ
  rw [show τ.map (O.sh b φ.length) = (τ.map (O.sh b φ.length)).take b ++ (τ.map (O.sh b φ.length)).drop b from (List.take_append_drop _ _).symm, mapM_app] at h1
  generalize fzO (n + φ.length) (ins b φ σ) = g at h1 hid ⊢
  unfold ins
  rw [mapM_app, mapM_app, hid]
  have hA : ((τ.map (O.sh b φ.length)).take b).length = b := by rw [List.length_take, List.length_map]; omega
  cases ha : ((τ.map (O.sh b φ.length)).take b).mapM g with
  | none =>
    rw [ha] at h1
    simp only [Option.bind_none] at h1 ⊢
    cases ht : τ.mapM (fzO n σ) with
    | none => rfl
    | some t => rw [ht] at h1; cases h1
  | some a =>
    rw [ha] at h1
    simp only [Option.bind_some] at h1 ⊢
    cases hc : ((τ.map (O.sh b φ.length)).drop b).mapM g with
    | none =>
      rw [hc] at h1
      simp only [Option.bind_none] at h1 ⊢
      cases ht : τ.mapM (fzO n σ) with
      | none => rfl
      | some t => rw [ht] at h1; cases h1
    | some c =>
      rw [hc] at h1
      simp only [Option.bind_some] at h1 ⊢
      cases ht : τ.mapM (fzO n σ) with
      | none => rw [ht] at h1; cases h1
      | some t =>
        rw [ht] at h1
        simp only [Option.map_some, Option.some.injEq] at h1
        have hal : a.length = b := (mapM_len ha).trans hA
        rw [Option.map_some, ← h1, ← hal, List.take_left, List.drop_left]
theorem cutSlots_sh {σ : Objs} (hb : b ≤ σ.length) {n : Nat} (hn : b ≤ n) {live : List Nat} : ∀ {ρ : List V} {i : Nat}, cutSlots (n + φ.length) (ins b φ σ) live i (ρ.map (V.sh b φ.length)) = (cutSlots n σ live i ρ).map (List.map (V.sh b φ.length))
  | [], i => rfl
  | x :: xs, i => by
    rw [List.map_cons, s_cons, s_cons, fz_sh hb hn, cutSlots_sh hb hn]
    split
    · cases fz n σ fzD x with
      | none => rfl
      | some y =>
        simp only [Option.map_some, Option.bind_some]
        cases cutSlots n σ live (i + 1) xs <;> rfl
    · simp only [Option.bind_some]
      cases cutSlots n σ live (i + 1) xs <;> rfl
def FrD (b : Nat) (φ : Objs) (x' x : Ran) : Prop := x' = x.map (fun p => (p.1, p.2.1.map (V.sh b φ.length), ins b φ p.2.2)) ∧ ∀ p, x = some p → b ≤ p.2.2.length
theorem FrD.none : FrD b φ none none := ⟨rfl, fun _ h => by cases h⟩
theorem FrD.some {e : Out} {ρ : List V} {σ : Objs} (h : b ≤ σ.length) : FrD b φ (some (e, ρ.map (V.sh b φ.length), ins b φ σ)) (some (e, ρ, σ)) := ⟨rfl, fun _ h' => by cases h'; exact h⟩
def Cd.cl : Cd → Bool
  | .ops _ l => l.all fun s => s.ins.cl
  | .drw _ l => l.all fun d => d.s.ins.cl
  | .seq a c => a.cl && c.cl
  | .cond x a c => x.cl && a.cl && c.cl
  | .block _ c => c.cl
  | .loop _ _ c => c.cl
  | _ => true
theorem loop_sh (hφ : FrW b φ) {lin lout : List Nat} {n : Nat} (hn : b ≤ n) {rd' rd : List V → Objs → Ran} (hrd : ∀ ρ σ, b ≤ σ.length → FrD b φ (rd' (ρ.map (V.sh b φ.length)) (ins b φ σ)) (rd ρ σ)) :
    ∀ {k : Nat} {ρ : List V} {σ : Objs}, b ≤ σ.length → FrD b φ (loopN lin lout (n + φ.length) rd' k (ρ.map (V.sh b φ.length)) (ins b φ σ)) (loopN lin lout n rd k ρ σ)
  | 0, ρ, σ, hb => .none
  | k + 1, ρ, σ, hb => by
    obtain ⟨e1, l1⟩ := hrd ρ σ hb
    unfold loopN
    rw [e1]
    cases hr : rd ρ σ with
    | none => exact .none
    | some p =>
      obtain ⟨e, ρ', σ'⟩ := p
      have hb' : b ≤ σ'.length := l1 _ hr
      have out : ∀ (e : Out), FrD b φ ((cutSlots (n + φ.length) (ins b φ σ') lout 0 (ρ'.map (V.sh b φ.length))).bind fun ρ'' => (cuO (n + φ.length) (ins b φ σ')).bind fun σ'' => Option.some (e, ρ'', σ''))
          ((cutSlots n σ' lout 0 ρ').bind fun ρ'' => (cuO n σ').bind fun σ'' => Option.some (e, ρ'', σ'')) := by
        intro e
        rw [cutSlots_sh hb' hn]
        obtain ⟨e2, l2⟩ := cutO_sh hφ hb' hn
        rw [e2]
        cases cutSlots n σ' lout 0 ρ' with
        | none => exact .none
        | some ρ'' =>
          simp only [Option.map_some, Option.bind_some]
          cases hc : cuO n σ' with
          | none => exact .none
          | some σ'' => exact .some (l2 _ hc)
      cases e with
      | norm =>
        simp only [Option.map_some, Option.bind_eq_bind, cutSlots_sh hb' hn]
        obtain ⟨e2, l2⟩ := cutO_sh hφ hb' hn
        rw [e2]
        cases cutSlots n σ' lin 0 ρ' with
        | none => exact .none
        | some ρ'' =>
          simp only [Option.map_some, Option.bind_some]
          cases hc : cuO n σ' with
          | none => exact .none
          | some σ'' => exact loop_sh hφ hn hrd (l2 _ hc)
      | ex i => exact out (.ex i)
      | ret => exact out .ret
section
variable {G : GV} {call call' : FuncId → List V → Objs → Ro}
theorem cd_sh (hφ : FrW b φ) (hG : GCl G) (hc : FrC b φ call' call) {fuel : Nat} : ∀ {c : Cd}, c.cl = true → ∀ {ρ : List V} {σ : Objs}, b ≤ σ.length → FrD b φ (evCd G call' fuel c (ρ.map (V.sh b φ.length)) (ins b φ σ)) (evCd G call fuel c ρ σ)
  | .skip, _, ρ, σ, hb => .some hb
  | .ret, _, ρ, σ, hb => .some hb
  | .exit id, _, ρ, σ, hb => .some hb
  | .ops _ l, h, ρ, σ, hb => by
    simp only [evCd]
    obtain ⟨e1, l1⟩ := steps_sh hG hc h hb (ρ := ρ)
    rw [e1]
    cases hr : evSteps G call l ρ σ with
    | none => exact .none
    | some p => exact .some (l1 _ hr)
  | .drw _ l, h, ρ, σ, hb => by
    simp only [evCd]
    obtain ⟨e1, l1⟩ := drw_sh hG hc h hb (ρ := ρ) (past := [])
    rw [List.map_nil] at e1
    rw [e1]
    cases hr : evDrw G call [] l ρ σ with
    | none => exact .none
    | some p => exact .some (l1 _ hr)
  | .seq a c, h, ρ, σ, hb => by
    simp only [Cd.cl, Bool.and_eq_true] at h
    simp only [evCd]
    obtain ⟨e1, l1⟩ := cd_sh hφ hG hc (fuel := fuel) h.1 hb (ρ := ρ)
    rw [e1]
    cases hr : evCd G call fuel a ρ σ with
    | none => exact .none
    | some p =>
      obtain ⟨e, ρ', σ'⟩ := p
      have hb' : b ≤ σ'.length := l1 _ hr
      cases e with
      | norm => exact cd_sh hφ hG hc h.2 hb'
      | ex i => exact .some hb'
      | ret => exact .some hb'
  | .cond x a c, h, ρ, σ, hb => by
    simp only [Cd.cl, Bool.and_eq_true] at h
    simp only [evCd, arg_sh hG h.1.1]
    cases arg G ρ x with
    | bool t =>
      cases t with
      | true => exact cd_sh hφ hG hc h.1.2 hb
      | false => exact cd_sh hφ hG hc h.2 hb
    | _ => exact .none
  | .block id c, h, ρ, σ, hb => by
    simp only [evCd]
    obtain ⟨e1, l1⟩ := cd_sh hφ hG hc (fuel := fuel) (c := c) h hb (ρ := ρ)
    rw [e1]
    cases hr : evCd G call fuel c ρ σ with
    | none => exact .none
    | some p =>
      obtain ⟨e, ρ', σ'⟩ := p
      have hb' : b ≤ σ'.length := l1 _ hr
      cases e with
      | norm => exact .some hb'
      | ex i =>
        simp only [Option.map_some]
        split <;> exact .some hb'
      | ret => exact .some hb'
  | .loop lin lout c, h, ρ, σ, hb => by
    simp only [evCd, Option.bind_eq_bind]
    rw [ins_len hb, cutSlots_sh hb hb]
    cases cutSlots σ.length σ lin 0 ρ with
    | none => exact .none
    | some ρ' =>
      simp only [Option.map_some, Option.bind_some]
      exact loop_sh hφ hb (fun ρ1 σ1 hb1 => cd_sh hφ hG hc (c := c) h hb1) hb
theorem resV_sh {ρ : List V} {σ : Objs} (hb : b ≤ σ.length) {r : Res} : resV (ρ.map (V.sh b φ.length)) (ins b φ σ) r = (resV ρ σ r).map (V.sh b φ.length) := by
  cases r with
  | tmp t => simp only [resV, getD_sh, Option.map_some]
  | cell t ag sz =>
    simp only [resV, getD_sh]
    cases ρ.getD t .undef with
    | ptr o off =>
      simp only [V.sh, oget_sh hb, Option.bind_eq_bind]
      cases Objs.get σ o with
      | none => rfl
      | some cs => simp only [Option.map_some, Option.bind_some, part_sh]
    | _ => rfl
theorem resM_sh {ρ : List V} {σ : Objs} (hb : b ≤ σ.length) : ∀ {rs : List Res}, rs.mapM (resV (ρ.map (V.sh b φ.length)) (ins b φ σ)) = (rs.mapM (resV ρ σ)).map (List.map (V.sh b φ.length))
  | [] => rfl
  | r :: rs => by
    simp only [List.mapM_cons, resV_sh hb, resM_sh hb (rs := rs), Option.bind_eq_bind]
    cases resV ρ σ r with
    | none => rfl
    | some x =>
      simp only [Option.map_some, Option.bind_some]
      cases rs.mapM (resV ρ σ) <;> rfl
theorem keep_sh {k : Nat} {keep : Bool} {x : V} : keepIf keep (V.sh b k x) = V.sh b k (keepIf keep x) := by
  cases keep
  · exact nogr_sh
  · rfl
theorem results_sh {ρ : List V} {σ : Objs} (hb : b ≤ σ.length) {keep : Bool} {rs : List Res} : Ev.results keep (ρ.map (V.sh b φ.length)) (ins b φ σ) rs = (Ev.results keep ρ σ rs).map (V.sh b φ.length) := by
  match rs with
  | [] => rfl
  | [r] =>
    simp only [Ev.results, resV_sh hb, Option.bind_eq_bind]
    cases resV ρ σ r with
    | none => rfl
    | some x =>
      simp only [Option.map_some, Option.bind_some, one_sh, agOk_sh, keep_sh]
      split <;> rfl
  | r1 :: r2 :: rs =>
    simp only [Ev.results, resM_sh hb, Option.bind_eq_bind]
    cases (r1 :: r2 :: rs).mapM (resV ρ σ) with
    | none => rfl
    | some xs => simp only [Option.map_some, Option.bind_some, V.sh, shs_map, map_nogr_sh]
theorem fn_sh (hφ : FrW b φ) (hG : GCl G) (hc : FrC b φ call' call) {F : Fn} (hF : F.body.cl = true) (he : F.esc = false) {fuel : Nat} {args : List V} {σ : Objs} (hb : b ≤ σ.length) :
    FrR b φ (evFn G call' F fuel (args.map (V.sh b φ.length)) (ins b φ σ)) (evFn G call F fuel args σ) := by
  have hfin : ∀ (ρ : List V) (σ' : Objs), b ≤ σ'.length → FrR b φ
      ((Ev.results F.keep (ρ.map (V.sh b φ.length)) (ins b φ σ') F.res).bind fun r => (cuO (ins b φ σ).length (ins b φ σ')).bind fun σ'' => (fz (ins b φ σ).length (ins b φ σ') fzD r).bind fun r' => Option.some (r', σ''))
      ((Ev.results F.keep ρ σ' F.res).bind fun r => (cuO σ.length σ').bind fun σ'' => (fz σ.length σ' fzD r).bind fun r' => Option.some (r', σ'')) := by
    intro ρ σ' hb'
    rw [results_sh hb', ins_len hb]
    obtain ⟨e2, l2⟩ := cutO_sh hφ hb' hb
    rw [e2]
    cases Ev.results F.keep ρ σ' F.res with
    | none => exact .none
    | some r =>
      simp only [Option.map_some, Option.bind_some, fz_sh hb' hb]
      cases hcut : cuO σ.length σ' with
      | none => exact .none
      | some σ'' =>
        simp only [Option.map_some, Option.bind_some]
        cases fz σ.length σ' fzD r with
        | none => exact .none
        | some r' => exact .some (l2 _ hcut)
  have hargs : (args.map (V.sh b φ.length)) ++ List.replicate (F.nt - (args.map (V.sh b φ.length)).length) V.undef = (args ++ List.replicate (F.nt - args.length) V.undef).map (V.sh b φ.length) := by
    rw [List.map_append, List.map_replicate, List.length_map]; rfl
  unfold evFn
  simp only [he, Option.bind_eq_bind]
  rw [hargs]
  obtain ⟨e1, l1⟩ := cd_sh hφ hG hc (fuel := fuel) hF hb (ρ := args ++ List.replicate (F.nt - args.length) .undef)
  rw [e1]
  cases hr : evCd G call fuel F.body (args ++ List.replicate (F.nt - args.length) .undef) σ with
  | none => exact .none
  | some p =>
    obtain ⟨e, ρ', σ'⟩ := p
    have hb' : b ≤ σ'.length := l1 _ hr
    simp only [Option.map_some, Option.bind_some]
    cases e with
    | norm => exact hfin ρ' σ' hb'
    | ret => exact hfin ρ' σ' hb'
    | ex i => exact .none
end
structure CtxCl (C : Ctx) : Prop where
  g : GCl C.G
  code : ∀ f F, C.code f = some F → F.body.cl = true ∧ F.esc = false
  prim : ∀ f h, C.prim f = some h → ∀ (b : Nat) (φ : Objs) args σ, b ≤ σ.length → FrR b φ (h (args.map (V.sh b φ.length)) (ins b φ σ)) (h args σ)
theorem ev_sh {C : Ctx} (hC : CtxCl C) (hφ : FrW b φ) : ∀ n, FrC b φ (ev C n) (ev C n)
  | 0 => fun f args σ hb => .none
  | n + 1 => fun f args σ hb => by
    simp only [ev]
    cases hp : C.prim f with
    | some h => exact hC.prim f h hp b φ args σ hb
    | none =>
      simp only
      cases hF : C.code f with
      | none => exact .none
      | some F => exact fn_sh hφ hC.g (ev_sh hC hφ n) (hC.code f F hF).1 (hC.code f F hF).2 hb
theorem E_frame {C : Ctx} (hC : CtxCl C) (hφ : FrW b φ) {f : FuncId} {args : List V} {σ : Objs} (hb : b ≤ σ.length) {r : V} {σ' : Objs} (h : E C f args σ = some (r, σ')) :
    E C f (args.map (V.sh b φ.length)) (ins b φ σ) = some (V.sh b φ.length r, ins b φ σ') := by
  have hesc : ∀ f F, C.code f = some F → F.esc = false := fun f F hF => (hC.code f F hF).2
  obtain ⟨n, hn⟩ := ev_of_E hesc h
  refine E_of_ev hesc (n := n) ?_
  rw [(ev_sh hC hφ n f args σ hb).1, hn]
  rfl
theorem E_any {C : Ctx} (hC : CtxCl C) {f : FuncId} {args : List V} {r : V} (h : E C f args [] = some (r, [])) (ha : V.rbs 0 args = true) (hr : V.rb 0 r = true) (σ : Objs) (hσ : Wf σ) : E C f args σ = some (r, σ) := by
  have h1 := E_frame hC (b := 0) (φ := σ) (by unfold FrW; rw [Nat.zero_add]; exact hσ) (Nat.zero_le _) h
  rw [← shs_map, shs_closed ha, sh_closed hr] at h1
  simpa [ins] using h1
end
end Go.Ev
set_option linter.unusedSimpArgs false
set_option linter.unusedVariables false
namespace Go.Proofs.YtkgkmlhljeidhaaGreatDoor
open Go.Ev
theorem fr_of {h : List V → Objs → Option (V × Objs)} {g : List V → Option V} (hg : ∀ xs σ, h xs σ = (g xs).map fun v => (v, σ)) (hs : ∀ b k xs, g (xs.map (V.sh b k)) = g xs) (hc : ∀ xs v, g xs = some v → V.rb 0 v = true) :
    ∀ (b : Nat) (φ : Objs) (xs : List V) (σ : Objs), b ≤ σ.length → FrR b φ (h (xs.map (V.sh b φ.length)) (ins b φ σ)) (h xs σ) := by
  intro b φ xs σ hb
  rw [hg, hg, hs]
  cases he : g xs with
  | none => exact FrR.none
  | some v =>
    have := FrR.some (φ := φ) (v := v) hb
    rw [sh_closed (hc _ _ he)] at this
    exact this
def kindG : List V → Option V
  | [.nili] => some (.int .i64 0)
  | [.ifc t (.eptr (.int .i64 k :: _) 0)] => if t = 73 then some (.int .i64 k) else none
  | _ => none
theorem kindP_fr : ∀ (b : Nat) (φ : Objs) (xs : List V) (σ : Objs), b ≤ σ.length → FrR b φ (kindP (xs.map (V.sh b φ.length)) (ins b φ σ)) (kindP xs σ) := by
  refine fr_of (g := kindG) (fun xs σ => ?_) (fun b k xs => ?_) (fun xs v h => ?_)
  · match xs with
    | [] => rfl
    | [x] =>
      cases x with
      | ifc t y =>
        cases y with
        | eptr cs o =>
          cases cs with
          | nil => rfl
          | cons c cs =>
            cases c with
            | int j n => cases j <;> cases o <;> first | rfl | (simp only [kindP, kindG]; split <;> rfl)
            | _ => rfl
        | _ => rfl
      | _ => rfl
    | _ :: _ :: _ => simp [kindP, kindG]
  · match xs with
    | [] => rfl
    | [x] =>
      cases x with
      | ifc t y =>
        cases y with
        | eptr cs o =>
          cases cs with
          | nil => rfl
          | cons c cs =>
            cases c with
            | int j n => cases j <;> cases o <;> rfl
            | _ => rfl
        | _ => rfl
      | _ => rfl
    | _ :: _ :: _ => simp [kindG]
  · unfold kindG at h
    split at h
    · cases h; rfl
    · split at h
      · cases h; rfl
      · cases h
    · cases h
def atG : List V → Option V
  | [.ifc t (.eptr (_ :: .int .i64 a :: _) 0)] => if t = 73 then some (.int .i64 a) else none
  | _ => none
theorem atP_fr : ∀ (b : Nat) (φ : Objs) (xs : List V) (σ : Objs), b ≤ σ.length → FrR b φ (atP (xs.map (V.sh b φ.length)) (ins b φ σ)) (atP xs σ) := by
  refine fr_of (g := atG) (fun xs σ => ?_) (fun b k xs => ?_) (fun xs v h => ?_)
  · match xs with
    | [] => rfl
    | [x] =>
      cases x with
      | ifc t y =>
        cases y with
        | eptr cs o =>
          match cs with
          | [] => rfl
          | [_] => rfl
          | c :: d :: cs =>
            cases d with
            | int j n => cases j <;> cases o <;> first | rfl | (simp only [atP, atG]; split <;> rfl)
            | _ => rfl
        | _ => rfl
      | _ => rfl
    | _ :: _ :: _ => simp [atP, atG]
  · match xs with
    | [] => rfl
    | [x] =>
      cases x with
      | ifc t y =>
        cases y with
        | eptr cs o =>
          match cs with
          | [] => rfl
          | [_] => rfl
          | c :: d :: cs =>
            cases d with
            | int j n => cases j <;> cases o <;> rfl
            | _ => rfl
        | _ => rfl
      | _ => rfl
    | _ :: _ :: _ => simp [atG]
  · unfold atG at h
    split at h
    · split at h
      · cases h; rfl
      · cases h
    · cases h
theorem kinds_sh {b k : Nat} : ∀ (n : Nat) (x : V), kinds n (V.sh b k x) = kinds n x
  | 0, x => by cases x <;> rfl
  | n + 1, x => by
    cases x with
    | ifc t y =>
      cases y with
      | eptr cs o =>
        match cs with
        | [] => rfl
        | [c] => cases c with
          | int j m => cases j <;> rfl
          | _ => rfl
        | [c, d] => cases c with
          | int j m => cases j <;> rfl
          | _ => rfl
        | c :: d :: e :: cs =>
          cases c with
          | int j m =>
            cases j with
            | i64 =>
              cases o with
              | zero =>
                have := kinds_sh (b := b) (k := k) n e
                simp only [V.sh, V.shs, kinds, this]
              | succ o => rfl
            | _ => rfl
          | _ => rfl
      | _ => rfl
    | _ => rfl
def isG : List V → Option V
  | [x, .ifc t (.int .i64 j)] => if t = 38 then (kinds 20 x).map fun l => .bool (decide (j ∈ l)) else none
  | _ => none
theorem isP_fr : ∀ (b : Nat) (φ : Objs) (xs : List V) (σ : Objs), b ≤ σ.length → FrR b φ (isP (xs.map (V.sh b φ.length)) (ins b φ σ)) (isP xs σ) := by
  refine fr_of (g := isG) (fun xs σ => ?_) (fun b k xs => ?_) (fun xs v h => ?_)
  · match xs with
    | [] => rfl
    | [x] => rfl
    | [x, y] =>
      cases y with
      | ifc t z =>
        cases z with
        | int j n =>
          cases j with
          | i64 =>
            simp only [isP, isG]
            split
            · rw [Option.map_map]; rfl
            · rfl
          | _ => rfl
        | _ => rfl
      | _ => rfl
    | _ :: _ :: _ :: _ => simp [isP, isG]
  · match xs with
    | [] => rfl
    | [x] => rfl
    | [x, y] =>
      cases y with
      | ifc t z =>
        cases z with
        | int j n =>
          cases j with
          | i64 => simp only [List.map_cons, List.map_nil, V.sh, isG, kinds_sh]
          | _ => rfl
        | _ => rfl
      | _ => rfl
    | _ :: _ :: _ :: _ => simp [isG]
  · unfold isG at h
    split at h
    · split at h
      · rw [Option.map_eq_some_iff] at h; obtain ⟨l, _, rfl⟩ := h; rfl
      · cases h
    · cases h
end Go.Proofs.YtkgkmlhljeidhaaGreatDoor
set_option linter.unusedSimpArgs false
set_option linter.unusedVariables false
set_option maxRecDepth 100000
namespace Go.Proofs.YtkgkmlhljeidhaaGreatDoor
open Go.Ev
def primAnC (f : FuncId) : Option (List V → Objs → Option (V × Objs)) :=
  if f = 18 then some kindP else if f = 19 then some atP else if f = 35 then some isP else none
def pow10V : List V := (List.range 20).map fun i => .int .u64 ((10 ^ i : Nat) : Int)
def gTab (n : Nat) : V := if n = 3 then .eptr pow10V 0 else .any
def cx : Ctx := ⟨errG gTab, codeAnC, primAnC⟩
theorem cx_prim : ∀ f h, cx.prim f = some h → Sound Tryz.prog cx.G f h := by
  intro f h hh
  unfold cx primAnC at hh
  simp only at hh
  split at hh
  · rename_i e; subst e; cases hh; exact kindP_sound _
  · split at hh
    · rename_i e; subst e; cases hh; exact atP_sound _
    · split at hh
      · rename_i e; subst e; cases hh; exact isP_sound _
      · cases hh
theorem esc_of {l : List (Nat × Ev.Fn)} (h : l.all (fun p => !p.2.esc) = true) : ∀ f F, lookF l f = some F → F.esc = false := by
  induction l with
  | nil => intro f F hF; cases hF
  | cons p r ih =>
    intro f F hF
    simp only [List.all_cons, Bool.and_eq_true, Bool.not_eq_true'] at h
    unfold lookF at hF
    split at hF
    · cases hF; exact h.1
    · exact ih h.2 f F hF
theorem cx_esc : ∀ f F, cx.code f = some F → F.esc = false := esc_of (l := listAnC) (by kernel_rfl)
theorem cl_of {l : List (Nat × Ev.Fn)} (h : l.all (fun p => p.2.body.cl && !p.2.esc) = true) : ∀ f F, lookF l f = some F → F.body.cl = true ∧ F.esc = false := by
  induction l with
  | nil => intro f F hF; cases hF
  | cons p r ih =>
    intro f F hF
    simp only [List.all_cons, Bool.and_eq_true, Bool.not_eq_true'] at h
    unfold lookF at hF
    split at hF
    · cases hF; exact h.1
    · exact ih (by simpa using h.2) f F hF
theorem cx_cl : CtxCl cx := by
  refine ⟨fun n => by show V.rb 0 (gTab n) = true; unfold gTab; split <;> kernel_rfl, cl_of (l := listAnC) (by kernel_rfl), ?_⟩
  intro f h hh
  unfold cx primAnC at hh
  simp only at hh
  split at hh
  · cases hh; exact kindP_fr
  · split at hh
    · cases hh; exact atP_fr
    · split at hh
      · cases hh; exact isP_fr
      · cases hh
end Go.Proofs.YtkgkmlhljeidhaaGreatDoor
set_option linter.unusedSimpArgs false
set_option linter.unusedVariables false
set_option maxRecDepth 100000
namespace Go.Proofs.YtkgkmlhljeidhaaGreatDoor
open Go.Ev
theorem e_Z16 (a0 a1 : V) (σ : Objs) : E cx 8 [a0, a1] σ = s_Z16 (Mi cx) a0 a1 σ := (E_fn (F := c_Z16) (by kernel_rfl) (by kernel_rfl) _ _).trans (k_Z16 ..)
theorem e_Z1u (a0 : V) (σ : Objs) : E cx 14 [a0] σ = s_Z1u (Mi cx) a0 σ := (E_fn (F := c_Z1u) (by kernel_rfl) (by kernel_rfl) _ _).trans (k_Z1u ..)
theorem e_Za (a0 : V) (σ : Objs) : E cx 13 [a0] σ = s_Za (Mi cx) a0 σ := (E_fn (F := c_Za) (by kernel_rfl) (by kernel_rfl) _ _).trans (k_Za ..)
theorem e_Zc (a0 : V) (σ : Objs) : E cx 15 [a0] σ = s_Zc (Mi cx) a0 σ := (E_fn (F := c_Zc) (by kernel_rfl) (by kernel_rfl) _ _).trans (k_Zc ..)
theorem u_Zc_0 (n0 : Nat) (n1 : Nat) (z0 z5 z6 z23 z24 z25 : V) (σ : Objs) : l_Zc_0 (Mi cx) n0 n1 [z0, z5, z6, z23, z24, z25] σ = b_Zc_0 (Mi cx) n0 n1 (l_Zc_0 (Mi cx) n0 n1) z0 z5 z6 z23 z24 z25 σ :=
  loop_at cx (seek (Mi cx) 53 [] [true, true, true, true, false, true] c_Zc.body (topK c_Zc n0)) n1 (B := fun rec vs σ => b_Zc_0 (Mi cx) n0 n1 rec (vs.getD 0 .undef) (vs.getD 1 .undef) (vs.getD 2 .undef) (vs.getD 3 .undef) (vs.getD 4 .undef) (vs.getD 5 .undef) σ) (by kernel_rfl) (by kernel_rfl) _ _
theorem e_Zb (a0 a1 : V) (σ : Objs) : E cx 21 [a0, a1] σ = s_Zb (Mi cx) a0 a1 σ := (E_fn (F := c_Zb) (by kernel_rfl) (by kernel_rfl) _ _).trans (k_Zb ..)
theorem e_Z2c (a0 a1 : V) (σ : Objs) : E cx 22 [a0, a1] σ = s_Z2c (Mi cx) a0 a1 σ := (E_fn (F := c_Z2c) (by kernel_rfl) (by kernel_rfl) _ _).trans (k_Z2c ..)
theorem e_Z18 (a0 : V) (σ : Objs) : E cx 32 [a0] σ = s_Z18 (Mi cx) a0 σ := (E_fn (F := c_Z18) (by kernel_rfl) (by kernel_rfl) _ _).trans (k_Z18 ..)
theorem u_Z18_0 (n0 : Nat) (n1 : Nat) (z0 z3 z4 : V) (σ : Objs) : l_Z18_0 (Mi cx) n0 n1 [z0, z3, z4] σ = b_Z18_0 (Mi cx) n0 n1 (l_Z18_0 (Mi cx) n0 n1) z0 z3 z4 σ :=
  loop_at cx (seek (Mi cx) 32 [] [true, true, false] c_Z18.body (topK c_Z18 n0)) n1 (B := fun rec vs σ => b_Z18_0 (Mi cx) n0 n1 rec (vs.getD 0 .undef) (vs.getD 1 .undef) (vs.getD 2 .undef) σ) (by kernel_rfl) (by kernel_rfl) _ _
theorem e_Z1a (a0 : V) (σ : Objs) : E cx 31 [a0] σ = s_Z1a (Mi cx) a0 σ := (E_fn (F := c_Z1a) (by kernel_rfl) (by kernel_rfl) _ _).trans (k_Z1a ..)
theorem u_Z1a_0 (n0 : Nat) (n1 : Nat) (z0 z3 z4 : V) (σ : Objs) : l_Z1a_0 (Mi cx) n0 n1 [z0, z3, z4] σ = b_Z1a_0 (Mi cx) n0 n1 (l_Z1a_0 (Mi cx) n0 n1) z0 z3 z4 σ :=
  loop_at cx (seek (Mi cx) 52 [] [true, true, false, true] c_Z1a.body (topK c_Z1a n0)) n1 (B := fun rec vs σ => b_Z1a_0 (Mi cx) n0 n1 rec (vs.getD 0 .undef) (vs.getD 1 .undef) (vs.getD 2 .undef) σ) (by kernel_rfl) (by kernel_rfl) _ _
theorem e_Z1q (a0 : V) (σ : Objs) : E cx 30 [a0] σ = s_Z1q (Mi cx) a0 σ := (E_fn (F := c_Z1q) (by kernel_rfl) (by kernel_rfl) _ _).trans (k_Z1q ..)
theorem u_Z1q_0 (n0 : Nat) (n1 : Nat) (z0 z3 z4 : V) (σ : Objs) : l_Z1q_0 (Mi cx) n0 n1 [z0, z3, z4] σ = b_Z1q_0 (Mi cx) n0 n1 (l_Z1q_0 (Mi cx) n0 n1) z0 z3 z4 σ :=
  loop_at cx (seek (Mi cx) 20 [] [true, true] c_Z1q.body (topK c_Z1q n0)) n1 (B := fun rec vs σ => b_Z1q_0 (Mi cx) n0 n1 rec (vs.getD 0 .undef) (vs.getD 1 .undef) (vs.getD 2 .undef) σ) (by kernel_rfl) (by kernel_rfl) _ _
theorem e_Z5 (a0 a1 : V) (σ : Objs) : E cx 25 [a0, a1] σ = s_Z5 (Mi cx) a0 a1 σ := (E_fn (F := c_Z5) (by kernel_rfl) (by kernel_rfl) _ _).trans (k_Z5 ..)
theorem u_Z5_0 (n0 : Nat) (n1 : Nat) (z0 z1 : V) (σ : Objs) : l_Z5_0 (Mi cx) n0 n1 [z0, z1] σ = b_Z5_0 (Mi cx) n0 n1 (l_Z5_0 (Mi cx) n0 n1) z0 z1 σ :=
  loop_at cx (seek (Mi cx) 13 [] [true, false] c_Z5.body (topK c_Z5 n0)) n1 (B := fun rec vs σ => b_Z5_0 (Mi cx) n0 n1 rec (vs.getD 0 .undef) (vs.getD 1 .undef) σ) (by kernel_rfl) (by kernel_rfl) _ _
theorem e_Z1 (a0 : V) (σ : Objs) : E cx 26 [a0] σ = s_Z1 (Mi cx) a0 σ := (E_fn (F := c_Z1) (by kernel_rfl) (by kernel_rfl) _ _).trans (k_Z1 ..)
theorem e_Z2 (a0 : V) (σ : Objs) : E cx 27 [a0] σ = s_Z2 (Mi cx) a0 σ := (E_fn (F := c_Z2) (by kernel_rfl) (by kernel_rfl) _ _).trans (k_Z2 ..)
theorem e_Z0 (a0 a1 : V) (σ : Objs) : E cx 28 [a0, a1] σ = s_Z0 (Mi cx) a0 a1 σ := (E_fn (F := c_Z0) (by kernel_rfl) (by kernel_rfl) _ _).trans (k_Z0 ..)
theorem e_Zg (a0 a1 : V) (σ : Objs) : E cx 29 [a0, a1] σ = s_Zg (Mi cx) a0 a1 σ := (E_fn (F := c_Zg) (by kernel_rfl) (by kernel_rfl) _ _).trans (k_Zg ..)
theorem e_Zz (a0 a1 : V) (σ : Objs) : E cx 33 [a0, a1] σ = s_Zz (Mi cx) a0 a1 σ := (E_fn (F := c_Zz) (by kernel_rfl) (by kernel_rfl) _ _).trans (k_Zz ..)
theorem e_Zh (a0 : V) (σ : Objs) : E cx 34 [a0] σ = s_Zh (Mi cx) a0 σ := (E_fn (F := c_Zh) (by kernel_rfl) (by kernel_rfl) _ _).trans (k_Zh ..)
theorem e_Z1i (a0 : V) (σ : Objs) : E cx 38 [a0] σ = s_Z1i (Mi cx) a0 σ := (E_fn (F := c_Z1i) (by kernel_rfl) (by kernel_rfl) _ _).trans (k_Z1i ..)
theorem e_Zv (a0 : V) (σ : Objs) : E cx 39 [a0] σ = s_Zv (Mi cx) a0 σ := (E_fn (F := c_Zv) (by kernel_rfl) (by kernel_rfl) _ _).trans (k_Zv ..)
theorem e_Z2d (a0 : V) (σ : Objs) : E cx 40 [a0] σ = s_Z2d (Mi cx) a0 σ := (E_fn (F := c_Z2d) (by kernel_rfl) (by kernel_rfl) _ _).trans (k_Z2d ..)
theorem e_Z19 (a0 a1 : V) (σ : Objs) : E cx 52 [a0, a1] σ = s_Z19 (Mi cx) a0 a1 σ := (E_fn (F := c_Z19) (by kernel_rfl) (by kernel_rfl) _ _).trans (k_Z19 ..)
theorem u_Z19_1 (n0 : Nat) (n1 : Nat) (z0 z1 z7 : V) (σ : Objs) : l_Z19_1 (Mi cx) n0 n1 [z0, z1, z7] σ = b_Z19_1 (Mi cx) n0 n1 (l_Z19_1 (Mi cx) n0 n1) z0 z1 z7 σ :=
  loop_at cx (seek (Mi cx) 55 [] [true, true, false, true] c_Z19.body (topK c_Z19 n0)) n1 (B := fun rec vs σ => b_Z19_1 (Mi cx) n0 n1 rec (vs.getD 0 .undef) (vs.getD 1 .undef) (vs.getD 2 .undef) σ) (by kernel_rfl) (by kernel_rfl) _ _
theorem u_Z19_0 (n0 : Nat) (n1 : Nat) (z0 z1 z6 : V) (σ : Objs) : l_Z19_0 (Mi cx) n0 n1 [z0, z1, z6] σ = b_Z19_0 (Mi cx) n0 n1 (l_Z19_0 (Mi cx) n0 n1) z0 z1 z6 σ :=
  loop_at cx (seek (Mi cx) 55 [] [true, false, true] c_Z19.body (topK c_Z19 n0)) n1 (B := fun rec vs σ => b_Z19_0 (Mi cx) n0 n1 rec (vs.getD 0 .undef) (vs.getD 1 .undef) (vs.getD 2 .undef) σ) (by kernel_rfl) (by kernel_rfl) _ _
theorem e_Z1c (a0 : V) (σ : Objs) : E cx 51 [a0] σ = s_Z1c (Mi cx) a0 σ := (E_fn (F := c_Z1c) (by kernel_rfl) (by kernel_rfl) _ _).trans (k_Z1c ..)
theorem e_Z1t (a0 a1 : V) (σ : Objs) : E cx 50 [a0, a1] σ = s_Z1t (Mi cx) a0 a1 σ := (E_fn (F := c_Z1t) (by kernel_rfl) (by kernel_rfl) _ _).trans (k_Z1t ..)
theorem u_Z1t_0 (n0 : Nat) (n1 : Nat) (z0 z4 z5 z7 : V) (σ : Objs) : l_Z1t_0 (Mi cx) n0 n1 [z0, z4, z5, z7] σ = b_Z1t_0 (Mi cx) n0 n1 (l_Z1t_0 (Mi cx) n0 n1) z0 z4 z5 z7 σ :=
  loop_at cx (seek (Mi cx) 192 [] [true, true, true, true, true, true, false, true, false, true, false] c_Z1t.body (topK c_Z1t n0)) n1 (B := fun rec vs σ => b_Z1t_0 (Mi cx) n0 n1 rec (vs.getD 0 .undef) (vs.getD 1 .undef) (vs.getD 2 .undef) (vs.getD 3 .undef) σ) (by kernel_rfl) (by kernel_rfl) _ _
theorem u_Z1t_1 (n0 : Nat) (n1 : Nat) (z0 z4 z5 z6 z12 z13 z14 : V) (σ : Objs) : l_Z1t_1 (Mi cx) n0 n1 [z0, z4, z5, z6, z12, z13, z14] σ = b_Z1t_1 (Mi cx) n0 n1 (l_Z1t_1 (Mi cx) n0 n1) z0 z4 z5 z6 z12 z13 z14 σ :=
  loop_at cx (seek (Mi cx) 192 [] [true, true, true, true, true, true, true, true, true, true, true, true, true, true, true, false, true] c_Z1t.body (topK c_Z1t n0)) n1 (B := fun rec vs σ => b_Z1t_1 (Mi cx) n0 n1 rec (vs.getD 0 .undef) (vs.getD 1 .undef) (vs.getD 2 .undef) (vs.getD 3 .undef) (vs.getD 4 .undef) (vs.getD 5 .undef) (vs.getD 6 .undef) σ) (by kernel_rfl) (by kernel_rfl) _ _
theorem e_Z3 (a0 a1 : V) (σ : Objs) : E cx 41 [a0, a1] σ = s_Z3 (Mi cx) a0 a1 σ := (E_fn (F := c_Z3) (by kernel_rfl) (by kernel_rfl) _ _).trans (k_Z3 ..)
theorem e_Zj (a0 a1 : V) (σ : Objs) : E cx 42 [a0, a1] σ = s_Zj (Mi cx) a0 a1 σ := (E_fn (F := c_Zj) (by kernel_rfl) (by kernel_rfl) _ _).trans (k_Zj ..)
theorem e_Z7 (a0 a1 : V) (σ : Objs) : E cx 43 [a0, a1] σ = s_Z7 (Mi cx) a0 a1 σ := (E_fn (F := c_Z7) (by kernel_rfl) (by kernel_rfl) _ _).trans (k_Z7 ..)
theorem e_Zi (a0 : V) (σ : Objs) : E cx 44 [a0] σ = s_Zi (Mi cx) a0 σ := (E_fn (F := c_Zi) (by kernel_rfl) (by kernel_rfl) _ _).trans (k_Zi ..)
theorem u_Zi_0 (n0 : Nat) (n1 : Nat) (z3 z8 z9 z10 : V) (σ : Objs) : l_Zi_0 (Mi cx) n0 n1 [z3, z8, z9, z10] σ = b_Zi_0 (Mi cx) n0 n1 (l_Zi_0 (Mi cx) n0 n1) z3 z8 z9 z10 σ :=
  loop_at cx (seek (Mi cx) 25 [] [true, true, false, true] c_Zi.body (topK c_Zi n0)) n1 (B := fun rec vs σ => b_Zi_0 (Mi cx) n0 n1 rec (vs.getD 0 .undef) (vs.getD 1 .undef) (vs.getD 2 .undef) (vs.getD 3 .undef) σ) (by kernel_rfl) (by kernel_rfl) _ _
theorem e_Zx (a0 a1 : V) (σ : Objs) : E cx 45 [a0, a1] σ = s_Zx (Mi cx) a0 a1 σ := (E_fn (F := c_Zx) (by kernel_rfl) (by kernel_rfl) _ _).trans (k_Zx ..)
theorem e_Zy (a0 a1 : V) (σ : Objs) : E cx 46 [a0, a1] σ = s_Zy (Mi cx) a0 a1 σ := (E_fn (F := c_Zy) (by kernel_rfl) (by kernel_rfl) _ _).trans (k_Zy ..)
theorem e_Z6 (a0 : V) (σ : Objs) : E cx 47 [a0] σ = s_Z6 (Mi cx) a0 σ := (E_fn (F := c_Z6) (by kernel_rfl) (by kernel_rfl) _ _).trans (k_Z6 ..)
theorem e_Z4 (a0 a1 a2 : V) (σ : Objs) : E cx 48 [a0, a1, a2] σ = s_Z4 (Mi cx) a0 a1 a2 σ := (E_fn (F := c_Z4) (by kernel_rfl) (by kernel_rfl) _ _).trans (k_Z4 ..)
theorem e_Zf (a0 : V) (σ : Objs) : E cx 49 [a0] σ = s_Zf (Mi cx) a0 σ := (E_fn (F := c_Zf) (by kernel_rfl) (by kernel_rfl) _ _).trans (k_Zf ..)
theorem e_Z11 (a0 a1 : V) (σ : Objs) : E cx 55 [a0, a1] σ = s_Z11 (Mi cx) a0 a1 σ := (E_fn (F := c_Z11) (by kernel_rfl) (by kernel_rfl) _ _).trans (k_Z11 ..)
theorem u_Z11_0 (n0 : Nat) (n1 : Nat) (z0 z1 : V) (σ : Objs) : l_Z11_0 (Mi cx) n0 n1 [z0, z1] σ = b_Z11_0 (Mi cx) n0 n1 (l_Z11_0 (Mi cx) n0 n1) z0 z1 σ :=
  loop_at cx (seek (Mi cx) 16 [] [true, false] c_Z11.body (topK c_Z11 n0)) n1 (B := fun rec vs σ => b_Z11_0 (Mi cx) n0 n1 rec (vs.getD 0 .undef) (vs.getD 1 .undef) σ) (by kernel_rfl) (by kernel_rfl) _ _
theorem e_Z1l (a0 : V) (σ : Objs) : E cx 60 [a0] σ = s_Z1l (Mi cx) a0 σ := (E_fn (F := c_Z1l) (by kernel_rfl) (by kernel_rfl) _ _).trans (k_Z1l ..)
theorem u_Z1l_0 (n0 : Nat) (n1 : Nat) (z0 z3 z4 : V) (σ : Objs) : l_Z1l_0 (Mi cx) n0 n1 [z0, z3, z4] σ = b_Z1l_0 (Mi cx) n0 n1 (l_Z1l_0 (Mi cx) n0 n1) z0 z3 z4 σ :=
  loop_at cx (seek (Mi cx) 23 [] [true, true, false, true] c_Z1l.body (topK c_Z1l n0)) n1 (B := fun rec vs σ => b_Z1l_0 (Mi cx) n0 n1 rec (vs.getD 0 .undef) (vs.getD 1 .undef) (vs.getD 2 .undef) σ) (by kernel_rfl) (by kernel_rfl) _ _
theorem e_Zm (a0 : V) (σ : Objs) : E cx 68 [a0] σ = s_Zm (Mi cx) a0 σ := (E_fn (F := c_Zm) (by kernel_rfl) (by kernel_rfl) _ _).trans (k_Zm ..)
theorem e_Z1j (a0 a1 : V) (σ : Objs) : E cx 69 [a0, a1] σ = s_Z1j (Mi cx) a0 a1 σ := (E_fn (F := c_Z1j) (by kernel_rfl) (by kernel_rfl) _ _).trans (k_Z1j ..)
theorem u_Z1j_0 (n0 : Nat) (n1 : Nat) (z0 z1 z5 z6 : V) (σ : Objs) : l_Z1j_0 (Mi cx) n0 n1 [z0, z1, z5, z6] σ = b_Z1j_0 (Mi cx) n0 n1 (l_Z1j_0 (Mi cx) n0 n1) z0 z1 z5 z6 σ :=
  loop_at cx (seek (Mi cx) 24 [] [true, true] c_Z1j.body (topK c_Z1j n0)) n1 (B := fun rec vs σ => b_Z1j_0 (Mi cx) n0 n1 rec (vs.getD 0 .undef) (vs.getD 1 .undef) (vs.getD 2 .undef) (vs.getD 3 .undef) σ) (by kernel_rfl) (by kernel_rfl) _ _
theorem e_Z1h (a0 : V) (σ : Objs) : E cx 86 [a0] σ = s_Z1h (Mi cx) a0 σ := (E_fn (F := c_Z1h) (by kernel_rfl) (by kernel_rfl) _ _).trans (k_Z1h ..)
theorem e_Z1g (a0 : V) (σ : Objs) : E cx 87 [a0] σ = s_Z1g (Mi cx) a0 σ := (E_fn (F := c_Z1g) (by kernel_rfl) (by kernel_rfl) _ _).trans (k_Z1g ..)
theorem u_Z1g_0 (n0 : Nat) (n1 : Nat) (z0 z4 z5 : V) (σ : Objs) : l_Z1g_0 (Mi cx) n0 n1 [z0, z4, z5] σ = b_Z1g_0 (Mi cx) n0 n1 (l_Z1g_0 (Mi cx) n0 n1) z0 z4 z5 σ :=
  loop_at cx (seek (Mi cx) 33 [] [true, true, true, false, true] c_Z1g.body (topK c_Z1g n0)) n1 (B := fun rec vs σ => b_Z1g_0 (Mi cx) n0 n1 rec (vs.getD 0 .undef) (vs.getD 1 .undef) (vs.getD 2 .undef) σ) (by kernel_rfl) (by kernel_rfl) _ _
theorem e_Z1e (a0 : V) (σ : Objs) : E cx 88 [a0] σ = s_Z1e (Mi cx) a0 σ := (E_fn (F := c_Z1e) (by kernel_rfl) (by kernel_rfl) _ _).trans (k_Z1e ..)
theorem u_Z1e_0 (n0 : Nat) (n1 : Nat) (z0 z3 : V) (σ : Objs) : l_Z1e_0 (Mi cx) n0 n1 [z0, z3] σ = b_Z1e_0 (Mi cx) n0 n1 (l_Z1e_0 (Mi cx) n0 n1) z0 z3 σ :=
  loop_at cx (seek (Mi cx) 21 [] [true, false, true] c_Z1e.body (topK c_Z1e n0)) n1 (B := fun rec vs σ => b_Z1e_0 (Mi cx) n0 n1 rec (vs.getD 0 .undef) (vs.getD 1 .undef) σ) (by kernel_rfl) (by kernel_rfl) _ _
theorem e_Z1w (a0 a1 : V) (σ : Objs) : E cx 73 [a0, a1] σ = s_Z1w (Mi cx) a0 a1 σ := (E_fn (F := c_Z1w) (by kernel_rfl) (by kernel_rfl) _ _).trans (k_Z1w ..)
theorem u_Z1w_1 (n0 : Nat) (n1 : Nat) (r1 : Rk) (n2 : Nat) (z0 z1 : V) (σ : Objs) : l_Z1w_1 (Mi cx) n0 n1 r1 n2 [z0, z1] σ = b_Z1w_1 (Mi cx) n0 n1 r1 n2 (l_Z1w_1 (Mi cx) n0 n1 r1 n2) z0 z1 σ :=
  loop_at cx (seek (Mi cx) 43 [(n1, r1)] [true, false, true, true, false] c_Z1w.body (topK c_Z1w n0)) n2 (B := fun rec vs σ => b_Z1w_1 (Mi cx) n0 n1 r1 n2 rec (vs.getD 0 .undef) (vs.getD 1 .undef) σ) (by kernel_rfl) (by kernel_rfl) _ _
theorem u_Z1w_0 (n0 : Nat) (n1 : Nat) (z0 z1 : V) (σ : Objs) : l_Z1w_0 (Mi cx) n0 n1 [z0, z1] σ = b_Z1w_0 (Mi cx) n0 n1 (l_Z1w_0 (Mi cx) n0 n1) z0 z1 σ :=
  loop_at cx (seek (Mi cx) 43 [] [true, false] c_Z1w.body (topK c_Z1w n0)) n1 (B := fun rec vs σ => b_Z1w_0 (Mi cx) n0 n1 rec (vs.getD 0 .undef) (vs.getD 1 .undef) σ) (by kernel_rfl) (by kernel_rfl) _ _
theorem e_Z1o (a0 : V) (σ : Objs) : E cx 74 [a0] σ = s_Z1o (Mi cx) a0 σ := (E_fn (F := c_Z1o) (by kernel_rfl) (by kernel_rfl) _ _).trans (k_Z1o ..)
theorem e_Z28 (a0 a1 : V) (σ : Objs) : E cx 75 [a0, a1] σ = s_Z28 (Mi cx) a0 a1 σ := (E_fn (F := c_Z28) (by kernel_rfl) (by kernel_rfl) _ _).trans (k_Z28 ..)
theorem e_Z26 (a0 a1 : V) (σ : Objs) : E cx 76 [a0, a1] σ = s_Z26 (Mi cx) a0 a1 σ := (E_fn (F := c_Z26) (by kernel_rfl) (by kernel_rfl) _ _).trans (k_Z26 ..)
theorem u_Z26_0 (n0 : Nat) (n1 : Nat) (z0 z1 z4 z5 z6 z7 z8 : V) (σ : Objs) : l_Z26_0 (Mi cx) n0 n1 [z0, z1, z4, z5, z6, z7, z8] σ = b_Z26_0 (Mi cx) n0 n1 (l_Z26_0 (Mi cx) n0 n1) z0 z1 z4 z5 z6 z7 z8 σ :=
  loop_at cx (seek (Mi cx) 93 [] [true, true, false] c_Z26.body (topK c_Z26 n0)) n1 (B := fun rec vs σ => b_Z26_0 (Mi cx) n0 n1 rec (vs.getD 0 .undef) (vs.getD 1 .undef) (vs.getD 2 .undef) (vs.getD 3 .undef) (vs.getD 4 .undef) (vs.getD 5 .undef) (vs.getD 6 .undef) σ) (by kernel_rfl) (by kernel_rfl) _ _
theorem e_Z24 (a0 a1 : V) (σ : Objs) : E cx 77 [a0, a1] σ = s_Z24 (Mi cx) a0 a1 σ := (E_fn (F := c_Z24) (by kernel_rfl) (by kernel_rfl) _ _).trans (k_Z24 ..)
theorem e_Z25 (a0 a1 : V) (σ : Objs) : E cx 78 [a0, a1] σ = s_Z25 (Mi cx) a0 a1 σ := (E_fn (F := c_Z25) (by kernel_rfl) (by kernel_rfl) _ _).trans (k_Z25 ..)
theorem e_Z22 (a0 a1 a2 : V) (σ : Objs) : E cx 79 [a0, a1, a2] σ = s_Z22 (Mi cx) a0 a1 a2 σ := (E_fn (F := c_Z22) (by kernel_rfl) (by kernel_rfl) _ _).trans (k_Z22 ..)
theorem e_Z1s (a0 a1 : V) (σ : Objs) : E cx 80 [a0, a1] σ = s_Z1s (Mi cx) a0 a1 σ := (E_fn (F := c_Z1s) (by kernel_rfl) (by kernel_rfl) _ _).trans (k_Z1s ..)
theorem e_Z1x (a0 a1 : V) (σ : Objs) : E cx 81 [a0, a1] σ = s_Z1x (Mi cx) a0 a1 σ := (E_fn (F := c_Z1x) (by kernel_rfl) (by kernel_rfl) _ _).trans (k_Z1x ..)
theorem u_Z1x_0 (n0 : Nat) (n1 : Nat) (z0 z1 z4 z5 z6 z7 : V) (σ : Objs) : l_Z1x_0 (Mi cx) n0 n1 [z0, z1, z4, z5, z6, z7] σ = b_Z1x_0 (Mi cx) n0 n1 (l_Z1x_0 (Mi cx) n0 n1) z0 z1 z4 z5 z6 z7 σ :=
  loop_at cx (seek (Mi cx) 53 [] [true, true, true, true, false] c_Z1x.body (topK c_Z1x n0)) n1 (B := fun rec vs σ => b_Z1x_0 (Mi cx) n0 n1 rec (vs.getD 0 .undef) (vs.getD 1 .undef) (vs.getD 2 .undef) (vs.getD 3 .undef) (vs.getD 4 .undef) (vs.getD 5 .undef) σ) (by kernel_rfl) (by kernel_rfl) _ _
theorem e_Z23 (a0 a1 : V) (σ : Objs) : E cx 82 [a0, a1] σ = s_Z23 (Mi cx) a0 a1 σ := (E_fn (F := c_Z23) (by kernel_rfl) (by kernel_rfl) _ _).trans (k_Z23 ..)
theorem u_Z23_0 (n0 : Nat) (n1 : Nat) (z0 z1 z6 : V) (σ : Objs) : l_Z23_0 (Mi cx) n0 n1 [z0, z1, z6] σ = b_Z23_0 (Mi cx) n0 n1 (l_Z23_0 (Mi cx) n0 n1) z0 z1 z6 σ :=
  loop_at cx (seek (Mi cx) 39 [] [true, true] c_Z23.body (topK c_Z23 n0)) n1 (B := fun rec vs σ => b_Z23_0 (Mi cx) n0 n1 rec (vs.getD 0 .undef) (vs.getD 1 .undef) (vs.getD 2 .undef) σ) (by kernel_rfl) (by kernel_rfl) _ _
theorem e_Z21 (a0 a1 : V) (σ : Objs) : E cx 83 [a0, a1] σ = s_Z21 (Mi cx) a0 a1 σ := (E_fn (F := c_Z21) (by kernel_rfl) (by kernel_rfl) _ _).trans (k_Z21 ..)
theorem e_Z1r (a0 a1 : V) (σ : Objs) : E cx 84 [a0, a1] σ = s_Z1r (Mi cx) a0 a1 σ := (E_fn (F := c_Z1r) (by kernel_rfl) (by kernel_rfl) _ _).trans (k_Z1r ..)
theorem e_Z2a (a0 : V) (σ : Objs) : E cx 85 [a0] σ = s_Z2a (Mi cx) a0 σ := (E_fn (F := c_Z2a) (by kernel_rfl) (by kernel_rfl) _ _).trans (k_Z2a ..)
theorem u_Z2a_0 (n0 : Nat) (n1 : Nat) (z0 z3 z4 : V) (σ : Objs) : l_Z2a_0 (Mi cx) n0 n1 [z0, z3, z4] σ = b_Z2a_0 (Mi cx) n0 n1 (l_Z2a_0 (Mi cx) n0 n1) z0 z3 z4 σ :=
  loop_at cx (seek (Mi cx) 30 [] [true, true, false, true] c_Z2a.body (topK c_Z2a n0)) n1 (B := fun rec vs σ => b_Z2a_0 (Mi cx) n0 n1 rec (vs.getD 0 .undef) (vs.getD 1 .undef) (vs.getD 2 .undef) σ) (by kernel_rfl) (by kernel_rfl) _ _
theorem e_Zk (a0 : V) (σ : Objs) : E cx 70 [a0] σ = s_Zk (Mi cx) a0 σ := (E_fn (F := c_Zk) (by kernel_rfl) (by kernel_rfl) _ _).trans (k_Zk ..)
theorem e_Zs (a0 a1 : V) (σ : Objs) : E cx 71 [a0, a1] σ = s_Zs (Mi cx) a0 a1 σ := (E_fn (F := c_Zs) (by kernel_rfl) (by kernel_rfl) _ _).trans (k_Zs ..)
theorem e_Zt (a0 a1 : V) (σ : Objs) : E cx 72 [a0, a1] σ = s_Zt (Mi cx) a0 a1 σ := (E_fn (F := c_Zt) (by kernel_rfl) (by kernel_rfl) _ _).trans (k_Zt ..)
theorem e_Z8 (a0 a1 : V) (σ : Objs) : E cx 89 [a0, a1] σ = s_Z8 (Mi cx) a0 a1 σ := (E_fn (F := c_Z8) (by kernel_rfl) (by kernel_rfl) _ _).trans (k_Z8 ..)
theorem e_Z1n (a0 : V) (σ : Objs) : E cx 92 [a0] σ = s_Z1n (Mi cx) a0 σ := (E_fn (F := c_Z1n) (by kernel_rfl) (by kernel_rfl) _ _).trans (k_Z1n ..)
theorem e_Zl (a0 a1 : V) (σ : Objs) : E cx 95 [a0, a1] σ = s_Zl (Mi cx) a0 a1 σ := (E_fn (F := c_Zl) (by kernel_rfl) (by kernel_rfl) _ _).trans (k_Zl ..)
theorem e_Z1b (a0 : V) (σ : Objs) : E cx 103 [a0] σ = s_Z1b (Mi cx) a0 σ := (E_fn (F := c_Z1b) (by kernel_rfl) (by kernel_rfl) _ _).trans (k_Z1b ..)
theorem e_Z1f (a0 a1 a2 : V) (σ : Objs) : E cx 104 [a0, a1, a2] σ = s_Z1f (Mi cx) a0 a1 a2 σ := (E_fn (F := c_Z1f) (by kernel_rfl) (by kernel_rfl) _ _).trans (k_Z1f ..)
theorem u_Z1f_0 (n0 : Nat) (n1 : Nat) (z1 z2 z7 : V) (σ : Objs) : l_Z1f_0 (Mi cx) n0 n1 [z1, z2, z7] σ = b_Z1f_0 (Mi cx) n0 n1 (l_Z1f_0 (Mi cx) n0 n1) z1 z2 z7 σ :=
  loop_at cx (seek (Mi cx) 20 [] [true, true, false] c_Z1f.body (topK c_Z1f n0)) n1 (B := fun rec vs σ => b_Z1f_0 (Mi cx) n0 n1 rec (vs.getD 0 .undef) (vs.getD 1 .undef) (vs.getD 2 .undef) σ) (by kernel_rfl) (by kernel_rfl) _ _
theorem e_Z1v (a0 a1 : V) (σ : Objs) : E cx 96 [a0, a1] σ = s_Z1v (Mi cx) a0 a1 σ := (E_fn (F := c_Z1v) (by kernel_rfl) (by kernel_rfl) _ _).trans (k_Z1v ..)
theorem u_Z1v_0 (n0 : Nat) (n1 : Nat) (z0 z1 z6 z7 : V) (σ : Objs) : l_Z1v_0 (Mi cx) n0 n1 [z0, z1, z6, z7] σ = b_Z1v_0 (Mi cx) n0 n1 (l_Z1v_0 (Mi cx) n0 n1) z0 z1 z6 z7 σ :=
  loop_at cx (seek (Mi cx) 67 [] [true, true, true, false] c_Z1v.body (topK c_Z1v n0)) n1 (B := fun rec vs σ => b_Z1v_0 (Mi cx) n0 n1 rec (vs.getD 0 .undef) (vs.getD 1 .undef) (vs.getD 2 .undef) (vs.getD 3 .undef) σ) (by kernel_rfl) (by kernel_rfl) _ _
theorem e_Z1y (a0 a1 : V) (σ : Objs) : E cx 97 [a0, a1] σ = s_Z1y (Mi cx) a0 a1 σ := (E_fn (F := c_Z1y) (by kernel_rfl) (by kernel_rfl) _ _).trans (k_Z1y ..)
theorem e_Z1z (a0 a1 : V) (σ : Objs) : E cx 98 [a0, a1] σ = s_Z1z (Mi cx) a0 a1 σ := (E_fn (F := c_Z1z) (by kernel_rfl) (by kernel_rfl) _ _).trans (k_Z1z ..)
theorem u_Z1z_1 (n0 : Nat) (n1 : Nat) (z0 z1 z6 : V) (σ : Objs) : l_Z1z_1 (Mi cx) n0 n1 [z0, z1, z6] σ = b_Z1z_1 (Mi cx) n0 n1 (l_Z1z_1 (Mi cx) n0 n1) z0 z1 z6 σ :=
  loop_at cx (seek (Mi cx) 70 [] [true, true, true, true, true, false, true, false, true, true, true, false, true, true] c_Z1z.body (topK c_Z1z n0)) n1 (B := fun rec vs σ => b_Z1z_1 (Mi cx) n0 n1 rec (vs.getD 0 .undef) (vs.getD 1 .undef) (vs.getD 2 .undef) σ) (by kernel_rfl) (by kernel_rfl) _ _
theorem u_Z1z_2 (n0 : Nat) (n1 : Nat) (z0 z1 z6 : V) (σ : Objs) : l_Z1z_2 (Mi cx) n0 n1 [z0, z1, z6] σ = b_Z1z_2 (Mi cx) n0 n1 (l_Z1z_2 (Mi cx) n0 n1) z0 z1 z6 σ :=
  loop_at cx (seek (Mi cx) 70 [] [true, true, true, true, false, true, false, true, true] c_Z1z.body (topK c_Z1z n0)) n1 (B := fun rec vs σ => b_Z1z_2 (Mi cx) n0 n1 rec (vs.getD 0 .undef) (vs.getD 1 .undef) (vs.getD 2 .undef) σ) (by kernel_rfl) (by kernel_rfl) _ _
theorem u_Z1z_0 (n0 : Nat) (n1 : Nat) (z0 z1 z6 : V) (σ : Objs) : l_Z1z_0 (Mi cx) n0 n1 [z0, z1, z6] σ = b_Z1z_0 (Mi cx) n0 n1 (l_Z1z_0 (Mi cx) n0 n1) z0 z1 z6 σ :=
  loop_at cx (seek (Mi cx) 70 [] [true, true, true, false] c_Z1z.body (topK c_Z1z n0)) n1 (B := fun rec vs σ => b_Z1z_0 (Mi cx) n0 n1 rec (vs.getD 0 .undef) (vs.getD 1 .undef) (vs.getD 2 .undef) σ) (by kernel_rfl) (by kernel_rfl) _ _
theorem e_Z29 (a0 a1 : V) (σ : Objs) : E cx 99 [a0, a1] σ = s_Z29 (Mi cx) a0 a1 σ := (E_fn (F := c_Z29) (by kernel_rfl) (by kernel_rfl) _ _).trans (k_Z29 ..)
theorem e_Z2b (a0 a1 a2 : V) (σ : Objs) : E cx 100 [a0, a1, a2] σ = s_Z2b (Mi cx) a0 a1 a2 σ := (E_fn (F := c_Z2b) (by kernel_rfl) (by kernel_rfl) _ _).trans (k_Z2b ..)
theorem u_Z2b_1 (n0 : Nat) (n1 : Nat) (r1 : Rk) (n2 : Nat) (z0 z1 z6 z7 z8 z9 : V) (σ : Objs) : l_Z2b_1 (Mi cx) n0 n1 r1 n2 [z0, z1, z6, z7, z8, z9] σ = b_Z2b_1 (Mi cx) n0 n1 r1 n2 (l_Z2b_1 (Mi cx) n0 n1 r1 n2) z0 z1 z6 z7 z8 z9 σ :=
  loop_at cx (seek (Mi cx) 98 [(n1, r1)] [true, true, true, false] c_Z2b.body (topK c_Z2b n0)) n2 (B := fun rec vs σ => b_Z2b_1 (Mi cx) n0 n1 r1 n2 rec (vs.getD 0 .undef) (vs.getD 1 .undef) (vs.getD 2 .undef) (vs.getD 3 .undef) (vs.getD 4 .undef) (vs.getD 5 .undef) σ) (by kernel_rfl) (by kernel_rfl) _ _
theorem u_Z2b_0 (n0 : Nat) (n1 : Nat) (z0 z1 z6 z7 z8 : V) (σ : Objs) : l_Z2b_0 (Mi cx) n0 n1 [z0, z1, z6, z7, z8] σ = b_Z2b_0 (Mi cx) n0 n1 (l_Z2b_0 (Mi cx) n0 n1) z0 z1 z6 z7 z8 σ :=
  loop_at cx (seek (Mi cx) 98 [] [true, true] c_Z2b.body (topK c_Z2b n0)) n1 (B := fun rec vs σ => b_Z2b_0 (Mi cx) n0 n1 rec (vs.getD 0 .undef) (vs.getD 1 .undef) (vs.getD 2 .undef) (vs.getD 3 .undef) (vs.getD 4 .undef) σ) (by kernel_rfl) (by kernel_rfl) _ _
theorem e_Z1m (a0 : V) (σ : Objs) : E cx 101 [a0] σ = s_Z1m (Mi cx) a0 σ := (E_fn (F := c_Z1m) (by kernel_rfl) (by kernel_rfl) _ _).trans (k_Z1m ..)
theorem e_Z1d (a0 : V) (σ : Objs) : E cx 102 [a0] σ = s_Z1d (Mi cx) a0 σ := (E_fn (F := c_Z1d) (by kernel_rfl) (by kernel_rfl) _ _).trans (k_Z1d ..)
theorem u_Z1d_0 (n0 : Nat) (n1 : Nat) (z0 z3 z4 : V) (σ : Objs) : l_Z1d_0 (Mi cx) n0 n1 [z0, z3, z4] σ = b_Z1d_0 (Mi cx) n0 n1 (l_Z1d_0 (Mi cx) n0 n1) z0 z3 z4 σ :=
  loop_at cx (seek (Mi cx) 28 [] [true, true, false, true] c_Z1d.body (topK c_Z1d n0)) n1 (B := fun rec vs σ => b_Z1d_0 (Mi cx) n0 n1 rec (vs.getD 0 .undef) (vs.getD 1 .undef) (vs.getD 2 .undef) σ) (by kernel_rfl) (by kernel_rfl) _ _
theorem e_Zr (a0 : V) (σ : Objs) : E cx 107 [a0] σ = s_Zr (Mi cx) a0 σ := (E_fn (F := c_Zr) (by kernel_rfl) (by kernel_rfl) _ _).trans (k_Zr ..)
theorem e_Zq (a0 : V) (σ : Objs) : E cx 108 [a0] σ = s_Zq (Mi cx) a0 σ := (E_fn (F := c_Zq) (by kernel_rfl) (by kernel_rfl) _ _).trans (k_Zq ..)
theorem e_Zo (a0 a1 : V) (σ : Objs) : E cx 109 [a0, a1] σ = s_Zo (Mi cx) a0 a1 σ := (E_fn (F := c_Zo) (by kernel_rfl) (by kernel_rfl) _ _).trans (k_Zo ..)
theorem u_Zo_0 (n0 : Nat) (n1 : Nat) (z0 z1 z4 : V) (σ : Objs) : l_Zo_0 (Mi cx) n0 n1 [z0, z1, z4] σ = b_Zo_0 (Mi cx) n0 n1 (l_Zo_0 (Mi cx) n0 n1) z0 z1 z4 σ :=
  loop_at cx (seek (Mi cx) 167 [] [true, false] c_Zo.body (topK c_Zo n0)) n1 (B := fun rec vs σ => b_Zo_0 (Mi cx) n0 n1 rec (vs.getD 0 .undef) (vs.getD 1 .undef) (vs.getD 2 .undef) σ) (by kernel_rfl) (by kernel_rfl) _ _
theorem e_Z1k (a0 : V) (σ : Objs) : E cx 111 [a0] σ = s_Z1k (Mi cx) a0 σ := (E_fn (F := c_Z1k) (by kernel_rfl) (by kernel_rfl) _ _).trans (k_Z1k ..)
theorem u_Z1k_0 (n0 : Nat) (n1 : Nat) (z0 z3 z4 : V) (σ : Objs) : l_Z1k_0 (Mi cx) n0 n1 [z0, z3, z4] σ = b_Z1k_0 (Mi cx) n0 n1 (l_Z1k_0 (Mi cx) n0 n1) z0 z3 z4 σ :=
  loop_at cx (seek (Mi cx) 17 [] [true, true, false, true] c_Z1k.body (topK c_Z1k n0)) n1 (B := fun rec vs σ => b_Z1k_0 (Mi cx) n0 n1 rec (vs.getD 0 .undef) (vs.getD 1 .undef) (vs.getD 2 .undef) σ) (by kernel_rfl) (by kernel_rfl) _ _
theorem e_Z1p (a0 : V) (σ : Objs) : E cx 112 [a0] σ = s_Z1p (Mi cx) a0 σ := (E_fn (F := c_Z1p) (by kernel_rfl) (by kernel_rfl) _ _).trans (k_Z1p ..)
theorem e_Z20 (a0 : V) (σ : Objs) : E cx 113 [a0] σ = s_Z20 (Mi cx) a0 σ := (E_fn (F := c_Z20) (by kernel_rfl) (by kernel_rfl) _ _).trans (k_Z20 ..)
theorem e_Z27 (a0 a1 a2 : V) (σ : Objs) : E cx 114 [a0, a1, a2] σ = s_Z27 (Mi cx) a0 a1 a2 σ := (E_fn (F := c_Z27) (by kernel_rfl) (by kernel_rfl) _ _).trans (k_Z27 ..)
theorem u_Z27_0 (n0 : Nat) (n1 : Nat) (z0 z1 z2 z6 : V) (σ : Objs) : l_Z27_0 (Mi cx) n0 n1 [z0, z1, z2, z6] σ = b_Z27_0 (Mi cx) n0 n1 (l_Z27_0 (Mi cx) n0 n1) z0 z1 z2 z6 σ :=
  loop_at cx (seek (Mi cx) 44 [] [true, false] c_Z27.body (topK c_Z27 n0)) n1 (B := fun rec vs σ => b_Z27_0 (Mi cx) n0 n1 rec (vs.getD 0 .undef) (vs.getD 1 .undef) (vs.getD 2 .undef) (vs.getD 3 .undef) σ) (by kernel_rfl) (by kernel_rfl) _ _
theorem e_Zu (a0 : V) (σ : Objs) : E cx 120 [a0] σ = s_Zu (Mi cx) a0 σ := (E_fn (F := c_Zu) (by kernel_rfl) (by kernel_rfl) _ _).trans (k_Zu ..)
theorem e_Zp (a0 : V) (σ : Objs) : E cx 119 [a0] σ = s_Zp (Mi cx) a0 σ := (E_fn (F := c_Zp) (by kernel_rfl) (by kernel_rfl) _ _).trans (k_Zp ..)
theorem e_Zn (a0 : V) (σ : Objs) : E cx 121 [a0] σ = s_Zn (Mi cx) a0 σ := (E_fn (F := c_Zn) (by kernel_rfl) (by kernel_rfl) _ _).trans (k_Zn ..)
end Go.Proofs.YtkgkmlhljeidhaaGreatDoor
set_option linter.unusedSimpArgs false
set_option linter.unusedVariables false
namespace Go.Ev
open Go
abbrev Road := Mach → List V → Objs → Ro
def ap0 (s : Mach → Objs → Ro) : Road := fun M xs σ => match xs with | [] => s M σ | _ => none
def ap1 (s : Mach → V → Objs → Ro) : Road := fun M xs σ => match xs with | [a] => s M a σ | _ => none
def ap2 (s : Mach → V → V → Objs → Ro) : Road := fun M xs σ => match xs with | [a, b] => s M a b σ | _ => none
def ap3 (s : Mach → V → V → V → Objs → Ro) : Road := fun M xs σ => match xs with | [a, b, c] => s M a b c σ | _ => none
def RoadOf (F : Fn) (h : Road) : Prop := ∀ M xs σ, Le (h M xs σ) (fnK M F xs σ)
theorem ap0_of {F : Fn} {s} (h : ∀ M σ, fnK M F [] σ = s M σ) : RoadOf F (ap0 s) := fun M xs σ r hr => by
  unfold ap0 at hr
  split at hr
  · rw [h]; exact hr
  · cases hr
theorem ap1_of {F : Fn} {s} (h : ∀ M a σ, fnK M F [a] σ = s M a σ) : RoadOf F (ap1 s) := fun M xs σ r hr => by
  unfold ap1 at hr
  split at hr
  · rw [h]; exact hr
  · cases hr
theorem ap2_of {F : Fn} {s} (h : ∀ M a b σ, fnK M F [a, b] σ = s M a b σ) : RoadOf F (ap2 s) := fun M xs σ r hr => by
  unfold ap2 at hr
  split at hr
  · rw [h]; exact hr
  · cases hr
theorem ap3_of {F : Fn} {s} (h : ∀ M a b c σ, fnK M F [a, b, c] σ = s M a b c σ) : RoadOf F (ap3 s) := fun M xs σ r hr => by
  unfold ap3 at hr
  split at hr
  · rw [h]; exact hr
  · cases hr
inductive Tr where
  | nil | node (f : Nat) (h : Road) (l r : Tr)
noncomputable def Tr.get (t : Tr) (g : Nat) : Option Road :=
  Tr.rec none (fun f h _ _ il ir => cond (Nat.beq g f) (some h) (cond (Nat.ble g f) il ir)) t
def TrOk (C : Ctx) : Tr → Prop
  | .nil => True
  | .node f h l r => (∃ F, C.prim f = none ∧ C.code f = some F ∧ RoadOf F h) ∧ TrOk C l ∧ TrOk C r
theorem get_ok {C : Ctx} : ∀ {t : Tr}, TrOk C t → ∀ {g : Nat} {h : Road}, t.get g = some h → ∃ F, C.prim g = none ∧ C.code g = some F ∧ RoadOf F h
  | .nil, _, g, h, hg => by cases hg
  | .node f h0 l r, ht, g, h, hg => by
    have e : (Tr.node f h0 l r).get g = cond (Nat.beq g f) (some h0) (cond (Nat.ble g f) (l.get g) (r.get g)) := rfl
    rw [e] at hg
    cases hb : Nat.beq g f with
    | true =>
      rw [hb] at hg
      cases hg
      rw [Nat.eq_of_beq_eq_true hb]
      exact ht.1
    | false =>
      rw [hb] at hg
      cases hl : Nat.ble g f with
      | true => rw [hl] at hg; exact get_ok ht.2.1 hg
      | false => rw [hl] at hg; exact get_ok ht.2.2 hg
noncomputable def run (G : GV) (prim : FuncId → Option (List V → Objs → Ro)) (t : Tr) (k : Nat) (n : Nat) : FuncId → List V → Objs → Ro :=
  Nat.rec (fun _ _ _ => none) (fun _ ih f xs σ => match t.get f with | some h => h ⟨G, ih, fun F => iter F k⟩ xs σ | none => match prim f with | some h => h xs σ | none => none) n
theorem fix_mono {F F' : Rk → Rk} (hF : ∀ f g, LeF f g → LeF (F f) (F g)) (hF' : ∀ f g, LeF f g → LeF (F' f) (F' g)) (h : ∀ f g, LeF f g → LeF (F f) (F' g)) : LeF (fixL F) (fixL F') := by
  intro vs σ r hr
  obtain ⟨j, hj⟩ := ((lim_is (iter_grow hF vs σ)).iff r).1 hr
  exact ((lim_is (iter_grow hF' vs σ)).iff r).2 ⟨j, iter_le h (Nat.le_refl j) vs σ r hj⟩
theorem iter_fix {F F' : Rk → Rk} (hF' : ∀ f g, LeF f g → LeF (F' f) (F' g)) (h : ∀ f g, LeF f g → LeF (F f) (F' g)) (k : Nat) : LeF (iter F k) (fixL F') := by
  intro vs σ r hr
  exact ((lim_is (iter_grow hF' vs σ)).iff r).2 ⟨k, iter_le h (Nat.le_refl k) vs σ r hr⟩
theorem run_E {C : Ctx} {t : Tr} (ht : TrOk C t) (k : Nat) : ∀ (n : Nat) (f : FuncId) (xs : List V) (σ : Objs), Le (run C.G C.prim t k n f xs σ) (E C f xs σ)
  | 0, f, xs, σ => fun r h => by cases h
  | n + 1, f, xs, σ => by
    intro r h
    have e : run C.G C.prim t k (n + 1) f xs σ = match t.get f with | some h => h ⟨C.G, run C.G C.prim t k n, fun F => iter F k⟩ xs σ | none => match C.prim f with | some h => h xs σ | none => none := rfl
    rw [e] at h
    cases hg : t.get f with
    | none =>
      rw [hg] at h
      simp only at h
      cases hp : C.prim f with
      | none => rw [hp] at h; cases h
      | some p => rw [hp] at h; rw [E_prim hp]; exact h
    | some hh =>
      rw [hg] at h
      obtain ⟨F, hp, hc, hr⟩ := get_ok ht hg
      have h1 := hr _ _ _ r h
      rw [E_fn hp hc]
      refine cd_le (M := ⟨C.G, run C.G C.prim t k n, fun F => iter F k⟩) (N := Mi C) F.body ⟨rfl, fun f xs σ => run_E ht k n f xs σ⟩ (fun F F' _ h2 h3 => iter_fix h2 h3 k) ⟨rfl, fun _ _ _ => Le.refl _⟩ (fun F F' _ _ h3 => iter_le h3 (Nat.le_refl k)) ⟨rfl, fun _ _ _ => Le.refl _⟩ (fun F F' h2 h3 h4 => fix_mono h2 h3 h4) (leK_refl _) _ _ r h1
theorem E_run {C : Ctx} {t : Tr} (ht : TrOk C t) {k n : Nat} {f : FuncId} {xs : List V} {σ : Objs} {r : V × Objs} (h : run C.G C.prim t k n f xs σ = some r) : E C f xs σ = some r := run_E ht k n f xs σ r h
end Go.Ev
set_option linter.unusedSimpArgs false
set_option linter.unusedVariables false
set_option maxRecDepth 100000
namespace Go.Proofs.YtkgkmlhljeidhaaGreatDoor
open Go.Ev
def treeAnC : Tr := (.node 71 (ap2 s_Zs) (.node 39 (ap1 s_Zv) (.node 25 (ap2 s_Z5) (.node 15 (ap1 s_Zc) (.node 10 (ap3 s_Z9) (.node 9 (ap0 s_Z17) (.node 8 (ap2 s_Z16) .nil .nil) .nil) (.node 14 (ap1 s_Z1u) (.node 13 (ap1 s_Za) .nil .nil) .nil)) (.node 23 (ap1 s_Zd) (.node 22 (ap2 s_Z2c) (.node 21 (ap2 s_Zb) .nil .nil) .nil) (.node 24 (ap1 s_Ze) .nil .nil))) (.node 31 (ap1 s_Z1a) (.node 28 (ap2 s_Z0) (.node 27 (ap1 s_Z2) (.node 26 (ap1 s_Z1) .nil .nil) .nil) (.node 30 (ap1 s_Z1q) (.node 29 (ap2 s_Zg) .nil .nil) .nil)) (.node 34 (ap1 s_Zh) (.node 33 (ap2 s_Zz) (.node 32 (ap1 s_Z18) .nil .nil) .nil) (.node 38 (ap1 s_Z1i) .nil .nil)))) (.node 50 (ap2 s_Z1t) (.node 45 (ap2 s_Zx) (.node 42 (ap2 s_Zj) (.node 41 (ap2 s_Z3) (.node 40 (ap1 s_Z2d) .nil .nil) .nil) (.node 44 (ap1 s_Zi) (.node 43 (ap2 s_Z7) .nil .nil) .nil)) (.node 48 (ap3 s_Z4) (.node 47 (ap1 s_Z6) (.node 46 (ap2 s_Zy) .nil .nil) .nil) (.node 49 (ap1 s_Zf) .nil .nil))) (.node 56 (ap2 s_Z13) (.node 53 (ap2 s_Z12) (.node 52 (ap2 s_Z19) (.node 51 (ap1 s_Z1c) .nil .nil) .nil) (.node 55 (ap2 s_Z11) (.node 54 (ap1 s_Z10) .nil .nil) .nil)) (.node 69 (ap2 s_Z1j) (.node 68 (ap1 s_Zm) (.node 60 (ap1 s_Z1l) .nil .nil) .nil) (.node 70 (ap1 s_Zk) .nil .nil))))) (.node 95 (ap2 s_Zl) (.node 82 (ap2 s_Z23) (.node 77 (ap2 s_Z24) (.node 74 (ap1 s_Z1o) (.node 73 (ap2 s_Z1w) (.node 72 (ap2 s_Zt) .nil .nil) .nil) (.node 76 (ap2 s_Z26) (.node 75 (ap2 s_Z28) .nil .nil) .nil)) (.node 80 (ap2 s_Z1s) (.node 79 (ap3 s_Z22) (.node 78 (ap2 s_Z25) .nil .nil) .nil) (.node 81 (ap2 s_Z1x) .nil .nil))) (.node 88 (ap1 s_Z1e) (.node 85 (ap1 s_Z2a) (.node 84 (ap2 s_Z1r) (.node 83 (ap2 s_Z21) .nil .nil) .nil) (.node 87 (ap1 s_Z1g) (.node 86 (ap1 s_Z1h) .nil .nil) .nil)) (.node 91 (ap2 s_Zw) (.node 90 (ap1 s_Z14) (.node 89 (ap2 s_Z8) .nil .nil) .nil) (.node 92 (ap1 s_Z1n) .nil .nil)))) (.node 107 (ap1 s_Zr) (.node 101 (ap1 s_Z1m) (.node 98 (ap2 s_Z1z) (.node 97 (ap2 s_Z1y) (.node 96 (ap2 s_Z1v) .nil .nil) .nil) (.node 100 (ap3 s_Z2b) (.node 99 (ap2 s_Z29) .nil .nil) .nil)) (.node 104 (ap3 s_Z1f) (.node 103 (ap1 s_Z1b) (.node 102 (ap1 s_Z1d) .nil .nil) .nil) (.node 105 (ap1 s_Z15) .nil .nil))) (.node 113 (ap1 s_Z20) (.node 111 (ap1 s_Z1k) (.node 109 (ap2 s_Zo) (.node 108 (ap1 s_Zq) .nil .nil) .nil) (.node 112 (ap1 s_Z1p) .nil .nil)) (.node 120 (ap1 s_Zu) (.node 119 (ap1 s_Zp) (.node 114 (ap3 s_Z27) .nil .nil) .nil) (.node 121 (ap1 s_Zn) .nil .nil))))))
theorem treeAnC_ok : TrOk cx treeAnC := ⟨⟨c_Zs, by kernel_rfl, by kernel_rfl, ap2_of k_Zs⟩, ⟨⟨c_Zv, by kernel_rfl, by kernel_rfl, ap1_of k_Zv⟩, ⟨⟨c_Z5, by kernel_rfl, by kernel_rfl, ap2_of k_Z5⟩, ⟨⟨c_Zc, by kernel_rfl, by kernel_rfl, ap1_of k_Zc⟩, ⟨⟨c_Z9, by kernel_rfl, by kernel_rfl, ap3_of k_Z9⟩, ⟨⟨c_Z17, by kernel_rfl, by kernel_rfl, ap0_of k_Z17⟩, ⟨⟨c_Z16, by kernel_rfl, by kernel_rfl, ap2_of k_Z16⟩, trivial, trivial⟩, trivial⟩, ⟨⟨c_Z1u, by kernel_rfl, by kernel_rfl, ap1_of k_Z1u⟩, ⟨⟨c_Za, by kernel_rfl, by kernel_rfl, ap1_of k_Za⟩, trivial, trivial⟩, trivial⟩⟩, ⟨⟨c_Zd, by kernel_rfl, by kernel_rfl, ap1_of k_Zd⟩, ⟨⟨c_Z2c, by kernel_rfl, by kernel_rfl, ap2_of k_Z2c⟩, ⟨⟨c_Zb, by kernel_rfl, by kernel_rfl, ap2_of k_Zb⟩, trivial, trivial⟩, trivial⟩, ⟨⟨c_Ze, by kernel_rfl, by kernel_rfl, ap1_of k_Ze⟩, trivial, trivial⟩⟩⟩, ⟨⟨c_Z1a, by kernel_rfl, by kernel_rfl, ap1_of k_Z1a⟩, ⟨⟨c_Z0, by kernel_rfl, by kernel_rfl, ap2_of k_Z0⟩, ⟨⟨c_Z2, by kernel_rfl, by kernel_rfl, ap1_of k_Z2⟩, ⟨⟨c_Z1, by kernel_rfl, by kernel_rfl, ap1_of k_Z1⟩, trivial, trivial⟩, trivial⟩, ⟨⟨c_Z1q, by kernel_rfl, by kernel_rfl, ap1_of k_Z1q⟩, ⟨⟨c_Zg, by kernel_rfl, by kernel_rfl, ap2_of k_Zg⟩, trivial, trivial⟩, trivial⟩⟩, ⟨⟨c_Zh, by kernel_rfl, by kernel_rfl, ap1_of k_Zh⟩, ⟨⟨c_Zz, by kernel_rfl, by kernel_rfl, ap2_of k_Zz⟩, ⟨⟨c_Z18, by kernel_rfl, by kernel_rfl, ap1_of k_Z18⟩, trivial, trivial⟩, trivial⟩, ⟨⟨c_Z1i, by kernel_rfl, by kernel_rfl, ap1_of k_Z1i⟩, trivial, trivial⟩⟩⟩⟩, ⟨⟨c_Z1t, by kernel_rfl, by kernel_rfl, ap2_of k_Z1t⟩, ⟨⟨c_Zx, by kernel_rfl, by kernel_rfl, ap2_of k_Zx⟩, ⟨⟨c_Zj, by kernel_rfl, by kernel_rfl, ap2_of k_Zj⟩, ⟨⟨c_Z3, by kernel_rfl, by kernel_rfl, ap2_of k_Z3⟩, ⟨⟨c_Z2d, by kernel_rfl, by kernel_rfl, ap1_of k_Z2d⟩, trivial, trivial⟩, trivial⟩, ⟨⟨c_Zi, by kernel_rfl, by kernel_rfl, ap1_of k_Zi⟩, ⟨⟨c_Z7, by kernel_rfl, by kernel_rfl, ap2_of k_Z7⟩, trivial, trivial⟩, trivial⟩⟩, ⟨⟨c_Z4, by kernel_rfl, by kernel_rfl, ap3_of k_Z4⟩, ⟨⟨c_Z6, by kernel_rfl, by kernel_rfl, ap1_of k_Z6⟩, ⟨⟨c_Zy, by kernel_rfl, by kernel_rfl, ap2_of k_Zy⟩, trivial, trivial⟩, trivial⟩, ⟨⟨c_Zf, by kernel_rfl, by kernel_rfl, ap1_of k_Zf⟩, trivial, trivial⟩⟩⟩, ⟨⟨c_Z13, by kernel_rfl, by kernel_rfl, ap2_of k_Z13⟩, ⟨⟨c_Z12, by kernel_rfl, by kernel_rfl, ap2_of k_Z12⟩, ⟨⟨c_Z19, by kernel_rfl, by kernel_rfl, ap2_of k_Z19⟩, ⟨⟨c_Z1c, by kernel_rfl, by kernel_rfl, ap1_of k_Z1c⟩, trivial, trivial⟩, trivial⟩, ⟨⟨c_Z11, by kernel_rfl, by kernel_rfl, ap2_of k_Z11⟩, ⟨⟨c_Z10, by kernel_rfl, by kernel_rfl, ap1_of k_Z10⟩, trivial, trivial⟩, trivial⟩⟩, ⟨⟨c_Z1j, by kernel_rfl, by kernel_rfl, ap2_of k_Z1j⟩, ⟨⟨c_Zm, by kernel_rfl, by kernel_rfl, ap1_of k_Zm⟩, ⟨⟨c_Z1l, by kernel_rfl, by kernel_rfl, ap1_of k_Z1l⟩, trivial, trivial⟩, trivial⟩, ⟨⟨c_Zk, by kernel_rfl, by kernel_rfl, ap1_of k_Zk⟩, trivial, trivial⟩⟩⟩⟩⟩, ⟨⟨c_Zl, by kernel_rfl, by kernel_rfl, ap2_of k_Zl⟩, ⟨⟨c_Z23, by kernel_rfl, by kernel_rfl, ap2_of k_Z23⟩, ⟨⟨c_Z24, by kernel_rfl, by kernel_rfl, ap2_of k_Z24⟩, ⟨⟨c_Z1o, by kernel_rfl, by kernel_rfl, ap1_of k_Z1o⟩, ⟨⟨c_Z1w, by kernel_rfl, by kernel_rfl, ap2_of k_Z1w⟩, ⟨⟨c_Zt, by kernel_rfl, by kernel_rfl, ap2_of k_Zt⟩, trivial, trivial⟩, trivial⟩, ⟨⟨c_Z26, by kernel_rfl, by kernel_rfl, ap2_of k_Z26⟩, ⟨⟨c_Z28, by kernel_rfl, by kernel_rfl, ap2_of k_Z28⟩, trivial, trivial⟩, trivial⟩⟩, ⟨⟨c_Z1s, by kernel_rfl, by kernel_rfl, ap2_of k_Z1s⟩, ⟨⟨c_Z22, by kernel_rfl, by kernel_rfl, ap3_of k_Z22⟩, ⟨⟨c_Z25, by kernel_rfl, by kernel_rfl, ap2_of k_Z25⟩, trivial, trivial⟩, trivial⟩, ⟨⟨c_Z1x, by kernel_rfl, by kernel_rfl, ap2_of k_Z1x⟩, trivial, trivial⟩⟩⟩, ⟨⟨c_Z1e, by kernel_rfl, by kernel_rfl, ap1_of k_Z1e⟩, ⟨⟨c_Z2a, by kernel_rfl, by kernel_rfl, ap1_of k_Z2a⟩, ⟨⟨c_Z1r, by kernel_rfl, by kernel_rfl, ap2_of k_Z1r⟩, ⟨⟨c_Z21, by kernel_rfl, by kernel_rfl, ap2_of k_Z21⟩, trivial, trivial⟩, trivial⟩, ⟨⟨c_Z1g, by kernel_rfl, by kernel_rfl, ap1_of k_Z1g⟩, ⟨⟨c_Z1h, by kernel_rfl, by kernel_rfl, ap1_of k_Z1h⟩, trivial, trivial⟩, trivial⟩⟩, ⟨⟨c_Zw, by kernel_rfl, by kernel_rfl, ap2_of k_Zw⟩, ⟨⟨c_Z14, by kernel_rfl, by kernel_rfl, ap1_of k_Z14⟩, ⟨⟨c_Z8, by kernel_rfl, by kernel_rfl, ap2_of k_Z8⟩, trivial, trivial⟩, trivial⟩, ⟨⟨c_Z1n, by kernel_rfl, by kernel_rfl, ap1_of k_Z1n⟩, trivial, trivial⟩⟩⟩⟩, ⟨⟨c_Zr, by kernel_rfl, by kernel_rfl, ap1_of k_Zr⟩, ⟨⟨c_Z1m, by kernel_rfl, by kernel_rfl, ap1_of k_Z1m⟩, ⟨⟨c_Z1z, by kernel_rfl, by kernel_rfl, ap2_of k_Z1z⟩, ⟨⟨c_Z1y, by kernel_rfl, by kernel_rfl, ap2_of k_Z1y⟩, ⟨⟨c_Z1v, by kernel_rfl, by kernel_rfl, ap2_of k_Z1v⟩, trivial, trivial⟩, trivial⟩, ⟨⟨c_Z2b, by kernel_rfl, by kernel_rfl, ap3_of k_Z2b⟩, ⟨⟨c_Z29, by kernel_rfl, by kernel_rfl, ap2_of k_Z29⟩, trivial, trivial⟩, trivial⟩⟩, ⟨⟨c_Z1f, by kernel_rfl, by kernel_rfl, ap3_of k_Z1f⟩, ⟨⟨c_Z1b, by kernel_rfl, by kernel_rfl, ap1_of k_Z1b⟩, ⟨⟨c_Z1d, by kernel_rfl, by kernel_rfl, ap1_of k_Z1d⟩, trivial, trivial⟩, trivial⟩, ⟨⟨c_Z15, by kernel_rfl, by kernel_rfl, ap1_of k_Z15⟩, trivial, trivial⟩⟩⟩, ⟨⟨c_Z20, by kernel_rfl, by kernel_rfl, ap1_of k_Z20⟩, ⟨⟨c_Z1k, by kernel_rfl, by kernel_rfl, ap1_of k_Z1k⟩, ⟨⟨c_Zo, by kernel_rfl, by kernel_rfl, ap2_of k_Zo⟩, ⟨⟨c_Zq, by kernel_rfl, by kernel_rfl, ap1_of k_Zq⟩, trivial, trivial⟩, trivial⟩, ⟨⟨c_Z1p, by kernel_rfl, by kernel_rfl, ap1_of k_Z1p⟩, trivial, trivial⟩⟩, ⟨⟨c_Zu, by kernel_rfl, by kernel_rfl, ap1_of k_Zu⟩, ⟨⟨c_Zp, by kernel_rfl, by kernel_rfl, ap1_of k_Zp⟩, ⟨⟨c_Z27, by kernel_rfl, by kernel_rfl, ap3_of k_Z27⟩, trivial, trivial⟩, trivial⟩, ⟨⟨c_Zn, by kernel_rfl, by kernel_rfl, ap1_of k_Zn⟩, trivial, trivial⟩⟩⟩⟩⟩⟩
end Go.Proofs.YtkgkmlhljeidhaaGreatDoor
set_option linter.unusedSimpArgs false
set_option linter.unusedVariables false
namespace Go.Proofs.YtkgkmlhljeidhaaGreatDoor
open Go.Ev
set_option maxRecDepth 100000
theorem d_Digit (a : Int) (σ : Objs) (hσ : Wf σ) : E cx 38 [.int .i64 a] σ = some (.bool (decide (48 ≤ a) && decide (a ≤ 57)), σ) := by
  rw [e_Z1i]
  simp +contextual -implicitDefEqProofs (disch := first | assumption | omega | (simp -implicitDefEqProofs only [go_sem]; try omega)) only [↓reduceIte, go_sem, iP, iN, w64, w8, w32, s_Z1i]
theorem d_cDigit (a : Int) (σ : Objs) (hσ : Wf σ) : E cx 34 [.int .i64 a] σ = some (.bool (decide (48 ≤ a) && decide (a ≤ 57)), σ) := by
  rw [e_Zh]
  simp +contextual -implicitDefEqProofs (disch := first | assumption | omega | (simp -implicitDefEqProofs only [go_sem]; try omega)) only [↓reduceIte, go_sem, iP, iN, w64, w8, w32, s_Zh]
def failV (k a : Int) : V := .ifc 73 (.eptr [.int .i64 k, .int .i64 a, .nili] 0)
theorem d_Fail (k a : Int) (σ : Objs) (hσ : Wf σ) : E cx 29 [.int .i64 k, .int .i64 a] σ = some (failV k a, σ) := by
  rw [e_Zg]
  simp +contextual -implicitDefEqProofs (disch := first | assumption | omega | (simp -implicitDefEqProofs only [go_sem]; try omega)) only [↓reduceIte, go_sem, iP, iN, w64, w8, w32, s_Zg]
  rfl
theorem failV_nogr {k a : Int} : (failV k a).ng = failV k a := rfl
theorem failV_rb {n : Nat} {k a : Int} : V.rb n (failV k a) = true := rfl
theorem neq_fail {k a : Int} : eB .neq .ifc (failV k a) .nili = some (.bool true) := rfl
attribute [go_sem] failV_nogr failV_rb neq_fail
def isPM (b : UInt8) : Bool := b == 43 || b == 45
def asciiPM : List V := (List.range 256).map fun i => .bool (i == 43 || i == 45)
def falses : List V := List.replicate 256 (.bool false)
theorem d_mkset : E cx 54 [.str [43, 45]] [] = some (.tup [.agg asciiPM, .bool true], []) := E_run treeAnC_ok (k := 100) (n := 20) (by kernel_rfl)
theorem asc_get (b : UInt8) : asciiPM[b.toNat]? = some (.bool (isPM b)) := by
  have h : b.toNat < 256 := b.toNat_lt
  unfold asciiPM isPM
  rw [List.getElem?_map, List.getElem?_range h]
  simp only [Option.map_some, Option.some.injEq, V.bool.injEq]
  rw [Bool.eq_iff_iff]
  simp only [Bool.or_eq_true, beq_iff_eq, ← UInt8.toNat_inj]
  rfl
theorem asc_rb : V.rbs 1 asciiPM = true := by kernel_rfl
theorem d_contains (b : UInt8) : E cx 89 [.ptr 0 0, .int .u8 b.toNat] [.cells asciiPM] = some (.bool (isPM b), [.cells asciiPM]) := by
  have e1 : evIaddrA 256 1 (.int .u8 b.toNat) (.ptr 0 0) = some (.ptr 0 b.toNat) := by
    have h : b.toNat < 256 := b.toNat_lt
    have : (0 : Int) ≤ b.toNat ∧ (b.toNat : Int) < (256 : Nat) := by omega
    simp only [evIaddrA, index, if_pos this, Option.bind_eq_bind, Option.bind_some, Int.toNat_natCast, Nat.mul_one, Nat.zero_add]
  have e2 : Ev.part false 1 asciiPM b.toNat = some (.bool (isPM b)) := by
    simp only [Ev.part, Bool.false_eq_true, if_false, if_true, asc_get, Option.map_some, n_bool]
  have hr := asc_rb
  rw [e_Z8]
  simp +contextual -implicitDefEqProofs (disch := first | assumption | omega | (simp -implicitDefEqProofs only [go_sem]; try omega)) only [↓reduceIte, go_sem, iP, iN, w64, w8, w32, s_Z8, e1, e2]
def trimPM (s : List UInt8) : List UInt8 := s.dropWhile isPM
theorem d_trimA : ∀ (s : List UInt8), E cx 55 [.str s, .ptr 0 0] [.cells asciiPM] = some (.str (trimPM s), [.cells asciiPM]) := by
  have hr := asc_rb
  have loop : ∀ s : List UInt8, l_Z11_0 (Mi cx) 1 1 [.str s, .ptr 0 0] [.cells asciiPM] = some (.str (trimPM s), [.cells asciiPM]) := by
    intro s
    induction s with
    | nil =>
      rw [u_Z11_0]
      simp +contextual -implicitDefEqProofs (disch := first | assumption | omega | (simp -implicitDefEqProofs only [go_sem]; try omega)) only [↓reduceIte, go_sem, iP, iN, w64, w8, w32, b_Z11_0, j_Z11_0, j_Z11_1]
      rfl
    | cons b r ih =>
      have hd := d_contains b
      rw [u_Z11_0]
      cases hb : isPM b
      · rw [hb] at hd
        simp +contextual -implicitDefEqProofs (disch := first | assumption | omega | (simp -implicitDefEqProofs only [go_sem]; try omega)) only [↓reduceIte, go_sem, iP, iN, w64, w8, w32, b_Z11_0, j_Z11_0, j_Z11_1, hd]
        rw [show trimPM (b :: r) = b :: r by unfold trimPM; rw [List.dropWhile_cons, hb]; rfl]
      · rw [hb] at hd
        simp +contextual -implicitDefEqProofs (disch := first | assumption | omega | (simp -implicitDefEqProofs only [go_sem]; try omega)) only [↓reduceIte, go_sem, iP, iN, w64, w8, w32, b_Z11_0, j_Z11_0, j_Z11_1, hd]
        rw [show trimPM (b :: r) = trimPM r by unfold trimPM; rw [List.dropWhile_cons, hb]; rfl]
        exact ih
  intro s
  rw [e_Z11]
  simp +contextual -implicitDefEqProofs (disch := first | assumption | omega | (simp -implicitDefEqProofs only [go_sem]; try omega)) only [↓reduceIte, go_sem, iP, iN, w64, w8, w32, s_Z11, loop]
def tlF (M : Mach) (a0 a1 : V) (σ : Objs) : Ro :=
  bd (pu (eB .eql .no a0.ng.ng (.str []))) fun x0 =>
  bd (gdv x0.ng false (some a1.ng)) fun x1 =>
  bd (gdv x0.ng false (pu (eB .eql .no x1.ng (.str [])))) fun x2 =>
  bd (pu (pV x0.ng.ng (.bool true) x2.ng)) fun x3 =>
  br x3.ng (
  bd (oK false a0.ng.ng) (nK σ.length σ)) (
  bd (pu (evLenS a1.ng.ng)) fun x4 =>
  bd (pu (eB .eql .no x4.ng (.int .i64 1))) fun x5 =>
  bd (gdv x5.ng true (some a1.ng)) fun x6 =>
  bd (gdv x5.ng true (pu (evIdx (.int .i64 0) x6.ng))) fun x7 =>
  bd (gdv x5.ng true (pu (eB .lss .no x7.ng (.int .u8 128)))) fun x8 =>
  bd (pu (pV x5.ng.ng x8.ng (.bool false))) fun x9 =>
  br x9.ng (
  bd (pu (evIdx (.int .i64 0) a1.ng.ng)) fun x10 =>
  bd (M.call 53 [a0.ng.ng, x10.ng] σ) fun p11 =>
  bd (oK false p11.1.ng) (nK σ.length p11.2)) (
  bd (M.call 54 [a1.ng.ng] σ) fun p12 =>
  bd (pu (eX 0 p12.1.ng.ng)) fun x13 =>
  bd (pu (eX 1 p12.1.ng.ng)) fun x14 =>
  let s15 : Objs := p12.2 ++ [.cells falses]
  bd (stV s15 256 (.ptr p12.2.length 0) x13.ng x13.ng) fun p16 =>
  br x14.ng.ng.ng (
  bd (M.call 55 [a0.ng.ng, (.ptr p12.2.length 0)] p16.2) fun p17 =>
  bd (oK false p17.1.ng) (nK σ.length p17.2)) (
  bd (M.call 56 [a0.ng.ng, a1.ng.ng] p16.2) fun p18 =>
  bd (oK false p18.1.ng) (nK σ.length p18.2))))
theorem tl_eq (a b : V) : s_Zz (Mi cx) a b [] = tlF (Mi cx) a b [] := by kernel_rfl
theorem st_pm : stV [.cells falses] 256 (.ptr 0 0) (.agg asciiPM) (.agg asciiPM) = some (.undef, [.cells asciiPM]) := by kernel_rfl
theorem d_trimLeft (s : List UInt8) (σ : Objs) (hσ : Wf σ) : E cx 33 [.str s, .str [43, 45]] σ = some (.str (trimPM s), σ) := by
  refine E_any cx_cl ?_ rfl rfl σ hσ
  have h1 := d_mkset
  have h2 := d_trimA s
  rw [e_Zz, tl_eq]
  by_cases hs : s = []
  · subst hs
    simp +contextual -implicitDefEqProofs (disch := first | assumption | omega | (simp -implicitDefEqProofs only [go_sem]; try omega)) only [↓reduceIte, go_sem, iP, iN, w64, w8, w32, tlF]
    rfl
  · simp +contextual -implicitDefEqProofs (disch := first | assumption | omega | (simp -implicitDefEqProofs only [go_sem]; try omega)) only [↓reduceIte, go_sem, iP, iN, w64, w8, w32, tlF, h1, h2, st_pm, hs]
theorem u8_lt (b : UInt8) : b.toNat < 256 := b.toNat_lt
def isD (b : UInt8) : Prop := 48 ≤ (b.toNat : Int) ∧ (b.toNat : Int) ≤ 57
instance (b : UInt8) : Decidable (isD b) := by unfold isD; infer_instance
def wlp : List UInt8 → Int → Bool → Option (Int × Bool)
  | [], n, o => some (n, o)
  | b :: r, n, o => if isD b then (if 2147483647 < n * 10 + (b.toNat - 48) then wlp r 2147483647 true else wlp r (n * 10 + (b.toNat - 48)) o) else none
def wRes (neg : Bool) : Option (Int × Bool) → V
  | none => .tup [.int .i64 0, failV 10 0]
  | some (_, true) => .tup [.int .i64 0, failV 3 0]
  | some (m, false) => .tup [.int .i64 (if neg then -m else m), .nili]
theorem d_wloop (c : UInt8) (s0 d : List UInt8) (cap : Cap) (hl : d.length < 4611686018427387904) : ∀ (r p : List UInt8) (n : Int) (o : Bool) (i : Int), 0 ≤ n ∧ n ≤ 2147483647 → d = p ++ r → i = p.length →
    l_Zc_0 (Mi cx) 0 0 [.str (c :: s0), .int .i64 n, .bool o, .sl (ofBytes d) cap, .int .i64 d.length, .int .i64 i] [] = some (wRes (decide ((c.toNat : Int) = 45)) (wlp r n o), [])
  | [], p, n, o, i, hn, hd, hi => by
    have h3 := d_Fail 3 0 [] wf_nil
    have hlen : d.length = p.length := by rw [hd]; simp
    rw [u_Zc_0]
    simp +contextual -implicitDefEqProofs (disch := first | assumption | omega | (simp -implicitDefEqProofs only [go_sem]; try omega)) only [↓reduceIte, go_sem, iP, iN, w64, w8, w32, b_Zc_0, j_Zc_0, j_Zc_1, h3]
    cases o with
    | true => simp [wlp, wRes]
    | false => by_cases hc : (c.toNat : Int) = 45 <;> simp [wlp, wRes, hc]
  | b :: r, p, n, o, i, hn, hd, hi => by
    have h3 := d_Fail 10 0 [] wf_nil
    have hb := u8_lt b
    have h4 := d_cDigit b.toNat [] wf_nil
    have hlen : d.length = p.length + r.length + 1 := by rw [hd]; simp; omega
    have hg : d.getD i.toNat 0 = b := by rw [hd, hi]; simp
    have ih1 := d_wloop c s0 d cap hl r (p ++ [b]) 2147483647 true (i + 1) (by omega) (by simp [hd]) (by simp; omega)
    rw [u_Zc_0]
    by_cases hD : isD b
    · have hD' := hD
      unfold isD at hD'
      by_cases hm : 2147483647 < n * 10 + ((b.toNat : Int) - 48)
      · simp +contextual -implicitDefEqProofs (disch := first | assumption | omega | (simp -implicitDefEqProofs only [go_sem]; try omega)) only [↓reduceIte, go_sem, iP, iN, w64, w8, w32, b_Zc_0, j_Zc_0, j_Zc_1, h3, h4, hg, ih1, wlp, hD]
      · have ih2 := d_wloop c s0 d cap hl r (p ++ [b]) (n * 10 + ((b.toNat : Int) - 48)) o (i + 1) (by omega) (by simp [hd]) (by simp; omega)
        simp +contextual -implicitDefEqProofs (disch := first | assumption | omega | (simp -implicitDefEqProofs only [go_sem]; try omega)) only [↓reduceIte, go_sem, iP, iN, w64, w8, w32, b_Zc_0, j_Zc_0, j_Zc_1, h3, h4, hg, ih2, wlp, hD]
    · have hD' := hD
      unfold isD at hD'
      simp +contextual -implicitDefEqProofs (disch := first | assumption | omega | (simp -implicitDefEqProofs only [go_sem]; try omega)) only [↓reduceIte, go_sem, iP, iN, w64, w8, w32, b_Zc_0, j_Zc_0, j_Zc_1, h3, h4, hg, wlp, hD, wRes]
def wholeA (s : List UInt8) : V :=
  if trimPM s = [] ∨ 1 < (s.length : Int) - (trimPM s).length then .tup [.int .i64 0, failV 10 0]
  else wRes (decide (((s.headD 0).toNat : Int) = 45)) (wlp (trimPM s) 0 false)
theorem trim_len (s : List UInt8) : (trimPM s).length ≤ s.length := List.Sublist.length_le (List.dropWhile_sublist _)
theorem d_Whole (s : List UInt8) (hs : s.length < 4611686018427387904) (σ : Objs) (hσ : Wf σ) : E cx 15 [.str s] σ = some (wholeA s, σ) := by
  refine E_any cx_cl ?_ rfl ?_ σ hσ
  · have h1 := d_trimLeft s [] wf_nil
    have h2 := d_Fail 10 0 [] wf_nil
    have hlen := trim_len s
    rw [e_Zc]
    by_cases he : trimPM s = []
    · simp +contextual -implicitDefEqProofs (disch := first | assumption | omega | (simp -implicitDefEqProofs only [go_sem]; try omega)) only [↓reduceIte, go_sem, iP, iN, w64, w8, w32, s_Zc, h1, h2, he, wholeA]
    · by_cases hd : 1 < (s.length : Int) - (trimPM s).length
      · simp +contextual -implicitDefEqProofs (disch := first | assumption | omega | (simp -implicitDefEqProofs only [go_sem]; try omega)) only [↓reduceIte, go_sem, iP, iN, w64, w8, w32, s_Zc, h1, h2, he, wholeA, hd]
      · match s, he with
        | [], he => exact absurd rfl he
        | c :: s0, he =>
          have h3 := d_wloop c s0 (trimPM (c :: s0)) (.gr 1) (by omega) (trimPM (c :: s0)) [] 0 false 0 (by omega) rfl rfl
          simp only [List.length_cons] at hlen hd hs
          simp +contextual -implicitDefEqProofs (disch := first | assumption | omega | (simp -implicitDefEqProofs only [go_sem]; try omega)) only [↓reduceIte, go_sem, iP, iN, w64, w8, w32, s_Zc, h1, h2, he, wholeA, hd, h3, List.headD_cons]
  · unfold wholeA
    split
    · rfl
    · unfold wRes
      split <;> rfl
end Go.Proofs.YtkgkmlhljeidhaaGreatDoor
set_option linter.unusedSimpArgs false
set_option linter.unusedVariables false
namespace Go.Proofs.YtkgkmlhljeidhaaGreatDoor
open Go.Ev
set_option maxRecDepth 100000
def wlr : List UInt8 → Int → Option Int
  | [], n => some n
  | b :: r, n => if isD b then wlr r (if n ≤ 2147483647 then 10 * n + b.toNat - 48 else n) else none
def unsign (s : List UInt8) : List UInt8 :=
  match s with
  | [] => []
  | c :: t => if c.toNat = 43 ∨ c.toNat = 45 then t else s
def wS (s : List UInt8) : Int × Int :=
  if unsign s = [] then (0, 10)
  else match wlr (unsign s) 0 with
    | none => (0, 10)
    | some m => if 2147483647 < m then (0, 3) else (if ((s.headD 0).toNat : Int) = 45 then -m else m, 0)
def errV (k : Int) : V := if k = 0 then .nili else failV k 0
theorem wlp_wlr : ∀ (r : List UInt8) (n m : Int) (o : Bool), 0 ≤ n ∧ n ≤ 2147483647 → (o = false → m = n) → (o = true → 2147483647 < m) →
    (wlp r n o = none ∧ wlr r m = none) ∨ (∃ n' m' o', wlp r n o = some (n', o') ∧ wlr r m = some m' ∧ (o' = false → m' = n' ∧ 0 ≤ n' ∧ n' ≤ 2147483647) ∧ (o' = true → 2147483647 < m'))
  | [], n, m, o, hn, h1, h2 => .inr ⟨n, m, o, rfl, rfl, fun h => ⟨h1 h, hn⟩, h2⟩
  | b :: r, n, m, o, hn, h1, h2 => by
    by_cases hD : isD b
    · have hD' := hD
      unfold isD at hD'
      simp only [wlp, wlr, if_pos hD]
      by_cases hm : 2147483647 < n * 10 + ((b.toNat : Int) - 48)
      · simp only [if_pos hm]
        cases o with
        | false =>
          have := h1 rfl
          subst this
          rw [if_pos hn.2]
          exact wlp_wlr r 2147483647 _ true (by omega) (fun h => by cases h) (fun _ => by omega)
        | true =>
          have := h2 rfl
          rw [if_neg (by omega)]
          exact wlp_wlr r 2147483647 _ true (by omega) (fun h => by cases h) (fun _ => this)
      · simp only [if_neg hm]
        cases o with
        | false =>
          have := h1 rfl
          subst this
          rw [if_pos hn.2]
          exact wlp_wlr r _ _ false (by omega) (fun _ => by omega) (fun h => by cases h)
        | true =>
          have := h2 rfl
          rw [if_neg (by omega)]
          exact wlp_wlr r _ _ true (by omega) (fun h => by cases h) (fun _ => this)
    · left
      simp only [wlp, wlr, if_neg hD, and_self]
theorem pm_iff (c : UInt8) : isPM c = true ↔ (c.toNat = 43 ∨ c.toNat = 45) := by
  unfold isPM
  simp only [Bool.or_eq_true, beq_iff_eq, ← UInt8.toNat_inj]
  rfl
theorem trim_cons (c : UInt8) (t : List UInt8) : trimPM (c :: t) = if isPM c then trimPM t else c :: t := by
  unfold trimPM
  rw [List.dropWhile_cons]
theorem wholeA_eq (s : List UInt8) : wholeA s = .tup [.int .i64 (wS s).1, errV (wS s).2] := by
  have main : ∀ (c : UInt8) (r : List UInt8), wRes (decide ((c.toNat : Int) = 45)) (wlp r 0 false) = .tup [.int .i64 (match wlr r 0 with | none => (0, 10) | some m => if 2147483647 < m then (0, 3) else (if (c.toNat : Int) = 45 then -m else m, 0) : Int × Int).1, errV (match wlr r 0 with | none => (0, 10) | some m => if 2147483647 < m then (0, 3) else (if (c.toNat : Int) = 45 then -m else m, 0) : Int × Int).2] := by
    intro c r
    rcases wlp_wlr r 0 0 false (by omega) (fun _ => rfl) (fun h => by cases h) with ⟨h1, h2⟩ | ⟨n', m', o', h1, h2, h3, h4⟩
    · simp [h1, h2, wRes, errV]
    · rw [h1, h2]
      cases o' with
      | false =>
        obtain ⟨rfl, h5, h6⟩ := h3 rfl
        have : ¬ 2147483647 < m' := by omega
        by_cases hc : (c.toNat : Int) = 45 <;> simp [wRes, errV, this, hc]
      | true =>
        have := h4 rfl
        simp [wRes, errV, this]
  match s with
  | [] => simp [wholeA, wS, unsign, trimPM, errV]
  | c :: t =>
    by_cases hc : isPM c = true
    · have hu : unsign (c :: t) = t := by simp [unsign, (pm_iff c).1 hc]
      have ht : trimPM (c :: t) = trimPM t := by rw [trim_cons, if_pos hc]
      match t with
      | [] =>
        have ht2 : trimPM [c] = [] := by rw [ht]; rfl
        simp [wholeA, wS, hu, ht2, errV]
      | d :: t' =>
        by_cases hd : isPM d = true
        · have ht2 : trimPM (d :: t') = trimPM t' := by rw [trim_cons, if_pos hd]
          have hl := trim_len t'
          have hnd : ¬ isD d := by
            have := (pm_iff d).1 hd
            unfold isD; omega
          have h1 : 1 < ((c :: d :: t').length : Int) - (trimPM (c :: d :: t')).length := by rw [ht, ht2]; simp; omega
          have h2 : wlr (d :: t') 0 = none := by simp [wlr, hnd]
          simp only [wholeA, if_pos (Or.inr h1), wS, hu, h2]
          simp [errV]
        · have ht2 : trimPM (d :: t') = d :: t' := by rw [trim_cons, if_neg hd]
          have h1 : ¬ 1 < ((c :: d :: t').length : Int) - (trimPM (c :: d :: t')).length := by rw [ht, ht2]; simp; omega
          have h0 : ¬ trimPM (c :: d :: t') = [] := by rw [ht, ht2]; simp
          have hh : ¬ (trimPM (c :: d :: t') = [] ∨ 1 < ((c :: d :: t').length : Int) - (trimPM (c :: d :: t')).length) := fun h => h.elim h0 h1
          simp only [wholeA, if_neg hh, wS, hu, List.headD_cons, main]
          rw [ht, ht2]
          simp
          exact main c _
    · have hu : unsign (c :: t) = c :: t := by
        have := fun h => hc ((pm_iff c).2 h)
        simp only [unsign, if_neg this]
      have ht : trimPM (c :: t) = c :: t := by rw [trim_cons, if_neg hc]
      have h1 : ¬ 1 < ((c :: t).length : Int) - (trimPM (c :: t)).length := by rw [ht]; omega
      have h0 : ¬ trimPM (c :: t) = [] := by rw [ht]; simp
      have hh : ¬ (trimPM (c :: t) = [] ∨ 1 < ((c :: t).length : Int) - (trimPM (c :: t)).length) := fun h => h.elim h0 h1
      simp only [wholeA, if_neg hh, wS, hu, List.headD_cons, main]
      rw [ht]
      simp
      exact main c _
theorem d_pWhole (s : List UInt8) (hs : s.length < 4611686018427387904) (σ : Objs) (hσ : Wf σ) : E cx 15 [.str s] σ = some (.tup [.int .i64 (wS s).1, errV (wS s).2], σ) := by
  rw [d_Whole s hs σ hσ, wholeA_eq]
theorem errV_nogr {k : Int} : (errV k).ng = errV k := by unfold errV; split <;> rfl
theorem errV_rb {n : Nat} {k : Int} : V.rb n (errV k) = true := by unfold errV; split <;> rfl
theorem eq_errV {k : Int} : eB .eql .ifc (errV k) .nili = some (.bool (decide (k = 0))) := by
  unfold errV
  by_cases h : k = 0
  · rw [if_pos h, decide_eq_true h]; rfl
  · rw [if_neg h, decide_eq_false h]; rfl
attribute [go_sem] errV_nogr errV_rb eq_errV
theorem d_speaks : E cx 9 [] [] = some (.bool true, []) := E_run treeAnC_ok (k := 1000000) (n := 400) (by kernel_rfl)
end Go.Proofs.YtkgkmlhljeidhaaGreatDoor
set_option linter.unusedSimpArgs false
set_option linter.unusedVariables false
namespace Go.Proofs.YtkgkmlhljeidhaaGreatDoor
open Go.Ev
set_option maxRecDepth 100000
def digF : Nat → Nat → List UInt8 → List UInt8
  | 0, _, acc => acc
  | f + 1, n, acc => if n / 10 = 0 then UInt8.ofNat (48 + n % 10) :: acc else digF f (n / 10) (UInt8.ofNat (48 + n % 10) :: acc)
def digs (n : Nat) : List UInt8 := digF (n + 1) n []
def vL (r : List UInt8) (n : Int) : Int := r.foldl (fun n b => 10 * n + b.toNat - 48) n
theorem dig_toNat (n : Nat) : (UInt8.ofNat (48 + n % 10)).toNat = 48 + n % 10 := by
  rw [UInt8.toNat_ofNat']; omega
theorem dgn_isD (n : Nat) : isD (UInt8.ofNat (48 + n % 10)) := by
  unfold isD; rw [dig_toNat]; omega
theorem digF_isD : ∀ (f n : Nat) (acc : List UInt8), (∀ b ∈ acc, isD b) → ∀ b ∈ digF f n acc, isD b
  | 0, n, acc, h => h
  | f + 1, n, acc, h => by
    have h' : ∀ b ∈ (UInt8.ofNat (48 + n % 10) :: acc), isD b := by
      intro b hb
      rcases List.mem_cons.1 hb with rfl | hb
      · exact dgn_isD n
      · exact h b hb
    unfold digF
    split
    · exact h'
    · exact digF_isD f (n / 10) _ h'
theorem vL_cons (b : UInt8) (r : List UInt8) (n : Int) : vL (b :: r) n = vL r (10 * n + b.toNat - 48) := rfl
theorem digF_vL : ∀ (f n : Nat) (acc : List UInt8), n < f → vL (digF f n acc) 0 = vL acc n
  | 0, n, acc, h => absurd h (Nat.not_lt_zero n)
  | f + 1, n, acc, h => by
    unfold digF
    split
    · rename_i h0
      rw [vL_cons, dig_toNat]
      congr 1; omega
    · rename_i h0
      rw [digF_vL f (n / 10) _ (by omega), vL_cons, dig_toNat]
      congr 1; omega
theorem digF_ne : ∀ (f n : Nat) (acc : List UInt8), 0 < f → digF f n acc ≠ []
  | 0, n, acc, h => absurd h (Nat.lt_irrefl 0)
  | 1, n, acc, _ => by unfold digF; split <;> simp [digF]
  | f + 2, n, acc, _ => by
    unfold digF
    split
    · simp
    · exact digF_ne (f + 1) (n / 10) _ (by omega)
theorem digF_len : ∀ (f n : Nat) (acc : List UInt8), (digF f n acc).length ≤ acc.length + f
  | 0, n, acc => Nat.le_refl _
  | f + 1, n, acc => by
    unfold digF
    split
    · simp
    · have := digF_len f (n / 10) (UInt8.ofNat (48 + n % 10) :: acc)
      simp at this ⊢; omega
theorem wlr_vL : ∀ (r : List UInt8) (n m : Int), (∀ b ∈ r, isD b) → 0 ≤ n → 0 ≤ m → (n ≤ 2147483647 → m = n) → (2147483647 < n → 2147483647 < m) →
    ∃ x, wlr r n = some x ∧ (vL r m ≤ 2147483647 → x = vL r m) ∧ (2147483647 < vL r m → 2147483647 < x) ∧ m ≤ vL r m
  | [], n, m, _, hn, hm, h1, h2 => by
    refine ⟨n, rfl, fun h => ?_, fun h => ?_, Int.le_refl _⟩
    · show n = m
      have h' : m ≤ 2147483647 := h
      rcases Int.lt_or_le 2147483647 n with k | k
      · have := h2 k; omega
      · exact (h1 k).symm
    · have h' : 2147483647 < m := h
      rcases Int.lt_or_le 2147483647 n with k | k
      · exact k
      · have := h1 k; omega
  | b :: r, n, m, hb, hn, hm, h1, h2 => by
    have hD := hb b (by simp)
    have hD' := hD
    unfold isD at hD'
    have hr : ∀ c ∈ r, isD c := fun c hc => hb c (by simp [hc])
    simp only [wlr, if_pos hD, vL_cons]
    rcases Int.lt_or_le 2147483647 n with k | k
    · have k2 := h2 k
      rw [if_neg (by omega)]
      obtain ⟨x, e1, e2, e3, e4⟩ := wlr_vL r n (10 * m + b.toNat - 48) hr hn (by omega) (fun h => by omega) (fun _ => by omega)
      exact ⟨x, e1, e2, e3, by omega⟩
    · have k2 := h1 k
      subst k2
      rw [if_pos k]
      obtain ⟨x, e1, e2, e3, e4⟩ := wlr_vL r (10 * m + b.toNat - 48) (10 * m + b.toNat - 48) hr (by omega) (by omega) (fun _ => rfl) (fun h => h)
      exact ⟨x, e1, e2, e3, by omega⟩
def wvS (neg : Bool) (m : Int) : Int × Int := if 2147483647 < m then (0, 3) else (if neg then -m else m, 0)
theorem wS_digits (s r : List UInt8) (hu : unsign s = r) (hr : ∀ b ∈ r, isD b) (hne : r ≠ []) : wS s = wvS (decide (((s.headD 0).toNat : Int) = 45)) (vL r 0) := by
  obtain ⟨x, e1, e2, e3, _⟩ := wlr_vL r 0 0 hr (by omega) (by omega) (fun _ => rfl) (fun h => h)
  unfold wS
  rw [hu, if_neg hne, e1]
  unfold wvS
  rcases Int.lt_or_le 2147483647 (vL r 0) with k | k
  · simp only [if_pos (e3 k), if_pos k]
  · have := e2 k
    subst this
    simp only [if_neg (show ¬ 2147483647 < vL r 0 by omega), decide_eq_true_eq]
theorem digs_isD (n : Nat) : ∀ b ∈ digs n, isD b := digF_isD _ _ _ (by simp)
theorem digs_ne (n : Nat) : digs n ≠ [] := digF_ne _ _ _ (by omega)
theorem digs_vL (n : Nat) : vL (digs n) 0 = n := digF_vL _ _ _ (by omega)
theorem isD_unsign {s : List UInt8} (h : ∀ b ∈ s, isD b) : unsign s = s := by
  match s with
  | [] => rfl
  | c :: t =>
    have := h c (by simp)
    unfold isD at this
    have h2 : ¬ (c.toNat = 43 ∨ c.toNat = 45) := by omega
    simp only [unsign, if_neg h2]
theorem head_digs (n : Nat) : ¬ (((digs n).headD 0).toNat : Int) = 45 := by
  match h : digs n with
  | [] => exact absurd h (digs_ne n)
  | c :: t =>
    have := digs_isD n c (by rw [h]; simp)
    unfold isD at this
    simp only [List.headD_cons]; omega
theorem wS_digs (n : Nat) : wS (digs n) = wvS false n := by
  rw [wS_digits (digs n) (digs n) (isD_unsign (digs_isD n)) (digs_isD n) (digs_ne n), digs_vL, decide_eq_false (head_digs n)]
theorem wS_plus (n : Nat) : wS (43 :: digs n) = wvS false n := by
  rw [wS_digits (43 :: digs n) (digs n) (by simp [unsign]) (digs_isD n) (digs_ne n), digs_vL]; rfl
theorem vL_zeros : ∀ (k : Nat) (r : List UInt8), vL (List.replicate k 48 ++ r) 0 = vL r 0
  | 0, r => by simp
  | k + 1, r => by
    rw [List.replicate_succ, List.cons_append, vL_cons]
    exact vL_zeros k r
theorem wS_minus (k n : Nat) : wS (45 :: (List.replicate k 48 ++ digs n)) = wvS true n := by
  have hr : ∀ b ∈ List.replicate k (48 : UInt8) ++ digs n, isD b := by
    intro b hb
    rcases List.mem_append.1 hb with hb | hb
    · rw [List.eq_of_mem_replicate hb]; unfold isD; decide
    · exact digs_isD n b hb
  have hne : List.replicate k (48 : UInt8) ++ digs n ≠ [] := by
    intro h; exact digs_ne n (List.append_eq_nil_iff.1 h).2
  rw [wS_digits (45 :: (List.replicate k 48 ++ digs n)) (List.replicate k 48 ++ digs n) (by simp [unsign]) hr hne, vL_zeros, digs_vL]; rfl
end Go.Proofs.YtkgkmlhljeidhaaGreatDoor
set_option linter.unusedSimpArgs false
set_option linter.unusedVariables false
set_option linter.unusedSectionVars false
namespace Go.Proofs.YtkgkmlhljeidhaaGreatDoor
open Go.Ev
set_option maxRecDepth 100000
def dD : Nat → Nat → List UInt8
  | 0, u => []
  | k + 1, u => dD k (u / 10) ++ [UInt8.ofNat (48 + u % 10)]
theorem dD_len : ∀ (k u : Nat), (dD k u).length = k
  | 0, u => rfl
  | k + 1, u => by
    unfold dD
    rw [List.length_append, dD_len k]; rfl
theorem dD_add (a : Nat) : ∀ (b u : Nat), dD (a + b) u = dD a (u / 10 ^ b) ++ dD b u
  | 0, u => by
    show dD a u = dD a (u / 10 ^ 0) ++ []
    rw [Nat.pow_zero, Nat.div_one, List.append_nil]
  | b + 1, u => by
    show dD (a + b) (u / 10) ++ [UInt8.ofNat (48 + u % 10)] = dD a (u / 10 ^ (b + 1)) ++ (dD b (u / 10) ++ [UInt8.ofNat (48 + u % 10)])
    rw [dD_add a b, Nat.div_div_eq_div_mul, ← Nat.pow_succ', List.append_assoc]
theorem digF_dD : ∀ (k f n : Nat) (acc : List UInt8), (k = 0 ∨ 10 ^ k ≤ n) → n < 10 ^ (k + 1) → k < f → digF f n acc = dD (k + 1) n ++ acc
  | 0, f, n, acc, h1, h2, hf => by
    obtain ⟨g, rfl⟩ : ∃ g, f = g + 1 := ⟨f - 1, by omega⟩
    have h3 : n / 10 = 0 := by omega
    unfold digF dD
    rw [if_pos h3]
    rfl
  | k + 1, f, n, acc, h1, h2, hf => by
    obtain ⟨g, rfl⟩ : ∃ g, f = g + 1 := ⟨f - 1, by omega⟩
    have h4 : 10 ^ (k + 1) ≤ n := by omega
    have h5 : 10 ^ (k + 1) = 10 ^ k * 10 := Nat.pow_succ ..
    have h6 : 10 ^ (k + 1 + 1) = 10 ^ (k + 1) * 10 := Nat.pow_succ ..
    have h7 : 0 < 10 ^ k := Nat.pow_pos (by omega)
    have h3 : ¬ n / 10 = 0 := by omega
    have ih := digF_dD k g (n / 10) (UInt8.ofNat (48 + n % 10) :: acc) (.inr (by omega)) (by omega) (by omega)
    unfold digF
    rw [if_neg h3, ih]
    show dD (k + 1) (n / 10) ++ _ = (dD (k + 1) (n / 10) ++ [_]) ++ acc
    rw [List.append_assoc]
    rfl
theorem digs_dD (k n : Nat) (h1 : 1 ≤ k) (h2 : k = 1 ∨ 10 ^ (k - 1) ≤ n) (h3 : n < 10 ^ k) : digs n = dD k n := by
  obtain ⟨j, rfl⟩ : ∃ j, k = j + 1 := ⟨k - 1, by omega⟩
  have hj : j < 10 ^ j := Nat.lt_pow_self (by omega)
  rw [Nat.add_sub_cancel] at h2
  unfold digs
  rw [digF_dD j (n + 1) n [] (by omega) h3 (by omega), List.append_nil]
def blS (n : Nat) : Nat := if n = 0 then 0 else n.log2 + 1
theorem bl_of {n m : Nat} (h1 : 1 ≤ m) (h2 : 2 ^ (m - 1) ≤ n) (h3 : n < 2 ^ m) : blS n = m := by
  have h0 : n ≠ 0 := by
    have : 0 < 2 ^ (m - 1) := Nat.pow_pos (by omega)
    omega
  have : n.log2 = m - 1 := (Nat.log2_eq_iff h0).2 ⟨h2, by rw [Nat.sub_add_cancel h1]; exact h3⟩
  unfold blS
  rw [if_neg h0, this]; omega
theorem bl_facts {n : Nat} (h : n ≠ 0) : 1 ≤ blS n ∧ 2 ^ (blS n - 1) ≤ n ∧ n < 2 ^ blS n := by
  unfold blS
  rw [if_neg h]
  exact ⟨by omega, Nat.log2_self_le h, Nat.lt_log2_self⟩
theorem bl_shift {n k : Nat} (h : n / 2 ^ k ≠ 0) : blS n = blS (n / 2 ^ k) + k := by
  obtain ⟨h1, h2, h3⟩ := bl_facts h
  generalize blS (n / 2 ^ k) = m at h1 h2 h3
  have hp : 0 < 2 ^ k := Nat.pow_pos (by omega)
  refine bl_of (by omega) ?_ ?_
  · have := (Nat.le_div_iff_mul_le hp).1 h2
    rw [← Nat.pow_add] at this
    rw [show m + k - 1 = m - 1 + k by omega]
    exact this
  · have := (Nat.div_lt_iff_lt_mul hp).1 h3
    rw [← Nat.pow_add] at this
    exact this
theorem bl_le {n m : Nat} (h : n < 2 ^ m) : blS n ≤ m := by
  by_cases h0 : n = 0
  · rw [h0]; exact Nat.zero_le _
  · obtain ⟨h1, h2, h3⟩ := bl_facts h0
    have h4 : 2 ^ (blS n - 1) < 2 ^ m := Nat.lt_of_le_of_lt h2 h
    have := (Nat.pow_lt_pow_iff_right (by omega : 1 < 2)).1 h4
    omega
def tnS (u : Nat) : Nat := blS u * 78913 / 262144
def ndS (u : Nat) : Nat := tnS u + if 10 ^ tnS u ≤ u then 1 else 0
theorem nd_key : ∀ m : Fin 43, 1 ≤ m.val → 2 ^ m.val ≤ 10 ^ (m.val * 78913 / 262144 + 1) ∧ (m.val * 78913 / 262144 = 0 ∨ 10 ^ (m.val * 78913 / 262144 - 1) ≤ 2 ^ (m.val - 1)) ∧ m.val * 78913 / 262144 ≤ 12 := by decide
theorem nd_ok (u : Nat) (h1 : 1 ≤ u) (h2 : u ≤ 2199023255552) : 1 ≤ ndS u ∧ ndS u ≤ 13 ∧ 10 ^ (ndS u - 1) ≤ u ∧ u < 10 ^ ndS u ∧ tnS u ≤ 12 := by
  obtain ⟨b1, b2, b3⟩ := bl_facts (n := u) (by omega)
  have b4 : blS u ≤ 42 := bl_le (by omega)
  obtain ⟨k1, k2, k3⟩ := nd_key ⟨blS u, by omega⟩ b1
  simp only at k1 k2 k3
  unfold ndS tnS
  generalize hb : blS u = m at b1 b2 b3 b4 k1 k2 k3
  generalize m * 78913 / 262144 = t at k1 k2 k3
  by_cases hc : 10 ^ t ≤ u
  · rw [if_pos hc]
    refine ⟨by omega, by omega, by rw [Nat.add_sub_cancel]; exact hc, by omega, k3⟩
  · rw [if_neg hc, Nat.add_zero]
    rcases k2 with k2 | k2
    · rw [k2] at hc
      exact absurd h1 (by simpa using hc)
    · have : 1 ≤ t := by
        rcases Nat.eq_zero_or_pos t with h | h
        · rw [h] at hc; exact absurd h1 (by simpa using hc)
        · exact h
      exact ⟨this, by omega, by omega, by omega, k3⟩
theorem digs_nd (u : Nat) (h1 : 1 ≤ u) (h2 : u ≤ 2199023255552) : digs u = dD (ndS u) u := by
  obtain ⟨n1, _, n2, n3, _⟩ := nd_ok u h1 h2
  exact digs_dD _ _ n1 (.inr n2) n3
end Go.Proofs.YtkgkmlhljeidhaaGreatDoor
set_option linter.unusedSimpArgs false
set_option linter.unusedVariables false
namespace Go.Ev
open Go
section
variable {α : Type} {f : α → V} {sz : Nat} {l m : List α} {c c' : Cap}
theorem iaddr_map (hf : ∀ x, (f x).cells.length = sz) (d : α) {k : IntKind} {i : Int} (h : 0 ≤ i ∧ i < l.length) : eI sz (.int k i) (.sl (l.map f) c) = some (.eptr (f (l.getD i.toNat d)).cells 0) := by
  have h3 : i.toNat < l.length := by omega
  have h4 : (l.map f).length = l.length := by simp
  have h5 : (l.map f)[i.toNat]? = some (f (l.getD i.toNat d)) := by simp [h3]
  simp only [eI, index, h4, if_pos h, Option.bind_eq_bind, Option.bind_some, h5, hf, if_true]
theorem all_map (hf : ∀ x, (f x).cells.length = sz) : (l.map f).all (fun y => decide (y.cells.length = sz)) = true := by
  rw [List.all_map]
  exact List.all_eq_true.2 fun x _ => by simp [hf]
theorem cut_map (hf : ∀ x, (f x).cells.length = sz) {k k' : IntKind} {a b : Int} (h : 0 ≤ a ∧ a ≤ b ∧ b ≤ l.length) : evCut sz (.sl (l.map f) c) (some (.int k a)) (some (.int k' b)) none = some (.sl (((l.drop a.toNat).take (b.toNat - a.toNat)).map f) .no) := by
  have h1 : bound (.int k' b) (l.map f).length = some b.toNat := by simp [bound]; omega
  have h2 : bound (.int k a) b.toNat = some a.toNat := by simp [bound]; omega
  have h3 : bounds (l.map f).length (some (.int k a)) (some (.int k' b)) none = some (a.toNat, b.toNat, none) := by
    simp only [bounds, Option.getD_none, h1, h2, Option.bind_eq_bind, Option.bind_some, Option.pure_def]
  simp only [evCut, h3, Option.bind_eq_bind, Option.bind_some, all_map hf, if_true, reduceCtorEq, if_false, List.map_drop, List.map_take]
theorem okRow_map {ag : Bool} (hf : ∀ x, (f x).cells.length = sz) (ho : ∀ x, okCells (f x).cells = true) (ha : ∀ x, agOk ag (f x) = true) : okRow ag sz (l.map f) = true := by
  unfold okRow
  rw [List.all_map]
  exact List.all_eq_true.2 fun x _ => by simp [hf, ho, ha]
theorem app_map {ag : Bool} {bytes : Nat} {σ : Objs} (hf : ∀ x, (f x).cells.length = sz) (ho : ∀ x, okCells (f x).cells = true) (ha : ∀ x, agOk ag (f x) = true) (hc : c = .fx ∨ c = .gr sz) (hm : m ≠ []) (hl : (l.length + m.length) * bytes ≤ rowMax) :
    appV false ag sz bytes σ (.sl (l.map f) c) (.sl (m.map f) c') = some (.sl ((l ++ m).map f) (.gr sz)) := by
  have h1 := all_map (l := l) hf
  have h2 : ∃ y ys, m.map f = y :: ys := by
    match m, hm with
    | x :: m, _ => exact ⟨_, _, rfl⟩
  obtain ⟨y, ys, h2⟩ := h2
  have h3 : (l.map f).length + (y :: ys).length = l.length + m.length := by rw [← h2]; simp
  have h4 := okRow_map (l := m) hf ho ha
  rw [h2] at h4
  unfold appV
  simp only [srcOf, Bool.false_eq_true, if_false, rowOf, Option.bind_eq_bind, Option.bind_some]
  rw [h2]
  unfold evApp
  simp only [h4, if_true]
  rw [if_pos ⟨hc, h1, by rw [h3]; exact hl⟩, List.map_append, h2]
end
def ints (l : List Int) : List V := l.map (V.int .i64)
theorem ints_nil : ints [] = [] := rfl
theorem len_ints {l : List Int} : (ints l).length = l.length := by simp [ints]
theorem rbs_ints {n : Nat} {l : List Int} : V.rbs n (ints l) = true := rbs_map fun _ => rfl
theorem iaddr_ints {l : List Int} {c : Cap} {k : IntKind} {i : Int} (h : 0 ≤ i ∧ i < l.length) : eI 1 (.int k i) (.sl (ints l) c) = some (.eptr [.int .i64 (l.getD i.toNat 0)] 0) := iaddr_map (f := V.int .i64) (fun _ => rfl) 0 h
theorem cut_ints {l : List Int} {c : Cap} {k k' : IntKind} {a b : Int} (h : 0 ≤ a ∧ a ≤ b ∧ b ≤ l.length) : evCut 1 (.sl (ints l) c) (some (.int k a)) (some (.int k' b)) none = some (.sl (ints ((l.drop a.toNat).take (b.toNat - a.toNat))) .no) := cut_map (f := V.int .i64) (fun _ => rfl) h
theorem app_int {l : List Int} {x : Int} {c c' : Cap} {σ : Objs} (hc : c = .fx ∨ c = .gr 1) (hl : (l.length + 1) * 8 ≤ rowMax) : appV false false 1 8 σ (.sl (ints l) c) (.sl [.int .i64 x] c') = some (.sl (ints (l ++ [x])) (.gr 1)) :=
  app_map (f := V.int .i64) (m := [x]) (fun _ => rfl) (fun _ => rfl) (fun _ => rfl) hc (by simp) hl
theorem app_bytes {l m : List UInt8} {c c' : Cap} {σ : Objs} (hc : c = .fx ∨ c = .gr 1) (hm : m ≠ []) (hl : l.length + m.length ≤ rowMax) : appV false false 1 1 σ (.sl (ofBytes l) c) (.sl (ofBytes m) c') = some (.sl (ofBytes (l ++ m)) (.gr 1)) :=
  app_map (f := fun b : UInt8 => V.int .u8 b.toNat) (fun _ => rfl) (fun _ => rfl) (fun _ => rfl) hc hm (by simpa using hl)
theorem cut_bytes {l : List UInt8} {c : Cap} {k k' : IntKind} {a b : Int} (h : 0 ≤ a ∧ a ≤ b ∧ b ≤ l.length) : evCut 1 (.sl (ofBytes l) c) (some (.int k a)) (some (.int k' b)) none = some (.sl (ofBytes ((l.drop a.toNat).take (b.toNat - a.toNat))) .no) := cut_map (f := fun b : UInt8 => V.int .u8 b.toNat) (fun _ => rfl) h
theorem bytesOf_of {s : List UInt8} : bytesOf (ofBytes s) = some s := by
  induction s with
  | nil => rfl
  | cons b s ih =>
    show bytesOf (.int .u8 b.toNat :: ofBytes s) = _
    rw [bytesOf_cons, ih]
    simp
attribute [go_sem] len_ints rbs_ints iaddr_ints cut_ints app_int app_bytes cut_bytes bytesOf_of
end Go.Ev
set_option linter.unusedSimpArgs false
set_option linter.unusedVariables false
set_option linter.unusedSectionVars false
namespace Go.Proofs.YtkgkmlhljeidhaaGreatDoor
open Go.Ev
set_option maxRecDepth 100000
def spaceB (c : Int) : Bool := decide (c = 32) || decide (c = 9) || decide (c = 10)
def digitB (c : Int) : Bool := decide (48 ≤ c) && decide (c ≤ 57)
def smallZ (c : Int) : Int := if 65 ≤ c ∧ c ≤ 90 then c + 32 else c
def startB (c : Int) : Bool := decide (97 ≤ smallZ c) && decide (smallZ c ≤ 122) || decide (c = 95) || decide (128 ≤ c)
def nameB (c : Int) : Bool := startB c || digitB c || decide (c = 45)
def rightB (n : Int) : Bool := decide (0 ≤ n) && decide (n < 1114112) && (decide (n < 55296) || decide (57343 < n))
theorem d_Space (c : Int) (σ : Objs) (hσ : Wf σ) : E cx 74 [.int .i64 c] σ = some (.bool (spaceB c), σ) := by
  rw [e_Z1o]
  simp +contextual -implicitDefEqProofs (disch := first | assumption | omega | (simp -implicitDefEqProofs only [go_sem]; try omega)) only [↓reduceIte, go_sem, iP, iN, w64, w8, w32, s_Z1o, spaceB]
theorem d_Small (c : Int) (hc : -1000000000 ≤ c ∧ c ≤ 1000000000) (σ : Objs) (hσ : Wf σ) : E cx 92 [.int .i64 c] σ = some (.int .i64 (smallZ c), σ) := by
  rw [e_Z1n]
  simp +contextual -implicitDefEqProofs (disch := first | assumption | omega | (simp -implicitDefEqProofs only [go_sem]; try omega)) only [↓reduceIte, go_sem, iP, iN, w64, w8, w32, s_Z1n, smallZ]
theorem d_Start (c : Int) (hc : -1000000000 ≤ c ∧ c ≤ 1000000000) (σ : Objs) (hσ : Wf σ) : E cx 112 [.int .i64 c] σ = some (.bool (startB c), σ) := by
  have h := d_Small c hc σ hσ
  rw [e_Z1p]
  simp +contextual -implicitDefEqProofs (disch := first | assumption | omega | (simp -implicitDefEqProofs only [go_sem]; try omega)) only [↓reduceIte, go_sem, iP, iN, w64, w8, w32, s_Z1p, startB, h]
theorem d_Name (c : Int) (hc : -1000000000 ≤ c ∧ c ≤ 1000000000) (σ : Objs) (hσ : Wf σ) : E cx 101 [.int .i64 c] σ = some (.bool (nameB c), σ) := by
  have h := d_Start c hc σ hσ
  have h2 := d_Digit c σ hσ
  rw [e_Z1m]
  simp +contextual -implicitDefEqProofs (disch := first | assumption | omega | (simp -implicitDefEqProofs only [go_sem]; try omega)) only [↓reduceIte, go_sem, iP, iN, w64, w8, w32, s_Z1m, nameB, digitB, h, h2]
theorem d_Right (c : Int) (σ : Objs) (hσ : Wf σ) : E cx 51 [.int .i64 c] σ = some (.bool (rightB c), σ) := by
  rw [e_Z1c]
  simp +contextual -implicitDefEqProofs (disch := first | assumption | omega | (simp -implicitDefEqProofs only [go_sem]; try omega)) only [↓reduceIte, go_sem, iP, iN, w64, w8, w32, s_Z1c, rightB]
def Chs (l : List Int) : Prop := (∀ c ∈ l, 0 ≤ c ∧ c ≤ 1114111) ∧ l.length ≤ 1000000000
theorem Chs.get {l : List Int} (h : Chs l) (i : Nat) : 0 ≤ l.getD i 0 ∧ l.getD i 0 ≤ 1114111 := by
  by_cases hi : i < l.length
  · have : l.getD i 0 ∈ l := by simp [List.getD_eq_getElem?_getD, hi]
    exact h.1 _ this
  · have : l.getD i 0 = 0 := by simp [List.getD_eq_getElem?_getD, List.getElem?_eq_none (Nat.le_of_not_lt hi)]
    rw [this]; omega
def isB (l : List Int) (i c : Int) : Bool := decide (i < l.length) && decide (l.getD i.toNat 0 = c)
def spB (l : List Int) (i : Int) : Bool := decide (i < l.length) && spaceB (l.getD i.toNat 0)
def dgB (l : List Int) (i : Int) : Bool := decide (i < l.length) && digitB (l.getD i.toNat 0)
def stB (l : List Int) (i : Int) : Bool := decide (i < l.length) && startB (l.getD i.toNat 0)
def inB (l : List Int) (i : Int) : Bool := decide (i < l.length) && nameB (l.getD i.toNat 0)
def escB (l : List Int) (i : Int) : Bool := isB l i 92 && !isB l (i + 1) 10
def nmB (l : List Int) (i : Int) : Bool := if isB l i 45 then isB l (i + 1) 45 || stB l (i + 1) || escB l (i + 1) else stB l i || escB l i
section
variable {l : List Int} (hl : Chs l) {i : Int} (hi : 0 ≤ i ∧ i ≤ 4000000000) (σ : Objs) (hσ : Wf σ)
include hl hi hσ
theorem d_is (c : Int) : E cx 79 [.sl (ints l) .no, .int .i64 i, .int .i64 c] σ = some (.bool (isB l i c), σ) := by
  rw [e_Z22]
  simp +contextual -implicitDefEqProofs (disch := first | assumption | omega | (simp -implicitDefEqProofs only [go_sem]; try omega)) only [↓reduceIte, go_sem, iP, iN, w64, w8, w32, s_Z22, isB]
theorem d_space : E cx 75 [.sl (ints l) .no, .int .i64 i] σ = some (.bool (spB l i), σ) := by
  have h := d_Space (l.getD i.toNat 0) σ hσ
  rw [e_Z28]
  simp +contextual -implicitDefEqProofs (disch := first | assumption | omega | (simp -implicitDefEqProofs only [go_sem]; try omega)) only [↓reduceIte, go_sem, iP, iN, w64, w8, w32, s_Z28, spB, h]
theorem d_digit : E cx 97 [.sl (ints l) .no, .int .i64 i] σ = some (.bool (dgB l i), σ) := by
  have h := d_Digit (l.getD i.toNat 0) σ hσ
  rw [e_Z1y]
  simp +contextual -implicitDefEqProofs (disch := first | assumption | omega | (simp -implicitDefEqProofs only [go_sem]; try omega)) only [↓reduceIte, go_sem, iP, iN, w64, w8, w32, s_Z1y, dgB, digitB, h]
theorem d_start : E cx 99 [.sl (ints l) .no, .int .i64 i] σ = some (.bool (stB l i), σ) := by
  have hg := hl.get i.toNat
  have h := d_Start (l.getD i.toNat 0) (by omega) σ hσ
  rw [e_Z29]
  simp +contextual -implicitDefEqProofs (disch := first | assumption | omega | (simp -implicitDefEqProofs only [go_sem]; try omega)) only [↓reduceIte, go_sem, iP, iN, w64, w8, w32, s_Z29, stB, h]
theorem d_inner : E cx 83 [.sl (ints l) .no, .int .i64 i] σ = some (.bool (inB l i), σ) := by
  have hg := hl.get i.toNat
  have h := d_Name (l.getD i.toNat 0) (by omega) σ hσ
  rw [e_Z21]
  simp +contextual -implicitDefEqProofs (disch := first | assumption | omega | (simp -implicitDefEqProofs only [go_sem]; try omega)) only [↓reduceIte, go_sem, iP, iN, w64, w8, w32, s_Z21, inB, h]
end
theorem d_Escape {l : List Int} (hl : Chs l) {i : Int} (hi : 0 ≤ i ∧ i ≤ 3000000000) (σ : Objs) (hσ : Wf σ) : E cx 84 [.sl (ints l) .no, .int .i64 i] σ = some (.bool (escB l i), σ) := by
  have h1 := d_is hl (i := i) (by omega) σ hσ 92
  have h2 := d_is hl (i := i + 1) (by omega) σ hσ 10
  rw [e_Z1r]
  simp +contextual -implicitDefEqProofs (disch := first | assumption | omega | (simp -implicitDefEqProofs only [go_sem]; try omega)) only [↓reduceIte, go_sem, iP, iN, w64, w8, w32, s_Z1r, escB, h1, h2]
theorem d_rName {l : List Int} (hl : Chs l) {i : Int} (hi : 0 ≤ i ∧ i ≤ 2000000000) (σ : Objs) (hσ : Wf σ) : E cx 80 [.sl (ints l) .no, .int .i64 i] σ = some (.bool (nmB l i), σ) := by
  have h1 := d_is hl (i := i) (by omega) σ hσ 45
  have h2 := d_is hl (i := i + 1) (by omega) σ hσ 45
  have h3 := d_start hl (i := i) (by omega) σ hσ
  have h4 := d_start hl (i := i + 1) (by omega) σ hσ
  have h5 := d_Escape hl (i := i) (by omega) σ hσ
  have h6 := d_Escape hl (i := i + 1) (by omega) σ hσ
  rw [e_Z1s]
  cases hb : isB l i 45 with
  | true => simp +contextual -implicitDefEqProofs (disch := first | assumption | omega | (simp -implicitDefEqProofs only [go_sem]; try omega)) only [↓reduceIte, go_sem, iP, iN, w64, w8, w32, s_Z1s, nmB, h1, h2, h3, h4, h5, h6, hb]
  | false => simp +contextual -implicitDefEqProofs (disch := first | assumption | omega | (simp -implicitDefEqProofs only [go_sem]; try omega)) only [↓reduceIte, go_sem, iP, iN, w64, w8, w32, s_Z1s, nmB, h1, h2, h3, h4, h5, h6, hb]
end Go.Proofs.YtkgkmlhljeidhaaGreatDoor
set_option linter.unusedSimpArgs false
set_option linter.unusedVariables false
set_option linter.unusedSectionVars false
namespace Go.Proofs.YtkgkmlhljeidhaaGreatDoor
open Go.Ev
set_option maxRecDepth 100000
def putB (x : Int) : UInt8 := UInt8.ofNat x.toNat
theorem putB_nat {x : Int} (h : 0 ≤ x ∧ x ≤ 255) : ((putB x).toNat : Int) = x := by
  unfold putB
  rw [UInt8.toNat_ofNat']; omega
def putS (n : Int) : List UInt8 :=
  if n < 128 then [putB n]
  else if n < 2048 then [putB (192 + n / 64), putB (128 + n % 64)]
  else if n < 65536 then [putB (224 + n / 4096), putB (128 + n / 64 % 64), putB (128 + n % 64)]
  else [putB (240 + n / 262144), putB (128 + n / 4096 % 64), putB (128 + n / 64 % 64), putB (128 + n % 64)]
theorem putS_len (n : Int) : 0 < (putS n).length ∧ (putS n).length ≤ 4 := by
  unfold putS
  split
  · simp
  · split
    · simp
    · split <;> simp
theorem putS_ne (n : Int) : putS n ≠ [] := by
  have := (putS_len n).1
  intro h; rw [h] at this; simp at this
theorem d_Put (n : Int) (hn : 0 ≤ n ∧ n ≤ 1114111) (σ : Objs) (hσ : Wf σ) : E cx 103 [.int .i64 n] σ = some (.sl (ofBytes (putS n)) .no, σ) := by
  rw [e_Z1b]
  by_cases h1 : n < 128
  · simp +contextual -implicitDefEqProofs (disch := first | assumption | omega | (simp -implicitDefEqProofs only [go_sem]; try omega)) only [↓reduceIte, go_sem, iP, iN, w64, w8, w32, s_Z1b, putS, ofBytes, putB_nat, tmod_nn, tdiv_nn]
  · by_cases h2 : n < 2048
    · simp +contextual -implicitDefEqProofs (disch := first | assumption | omega | (simp -implicitDefEqProofs only [go_sem]; try omega)) only [↓reduceIte, go_sem, iP, iN, w64, w8, w32, s_Z1b, putS, ofBytes, putB_nat, tmod_nn, tdiv_nn]
    · by_cases h3 : n < 65536
      · simp +contextual -implicitDefEqProofs (disch := first | assumption | omega | (simp -implicitDefEqProofs only [go_sem]; try omega)) only [↓reduceIte, go_sem, iP, iN, w64, w8, w32, s_Z1b, putS, ofBytes, putB_nat, tmod_nn, tdiv_nn]
      · simp +contextual -implicitDefEqProofs (disch := first | assumption | omega | (simp -implicitDefEqProofs only [go_sem]; try omega)) only [↓reduceIte, go_sem, iP, iN, w64, w8, w32, s_Z1b, putS, ofBytes, putB_nat, tmod_nn, tdiv_nn]
def textR (l : List Int) : List UInt8 := l.flatMap fun c => putS (if rightB c then c else 65533)
theorem textR_cons (c : Int) (l : List Int) : textR (c :: l) = putS (if rightB c then c else 65533) ++ textR l := rfl
theorem d_Textloop (l : List Int) (hl : Chs l) : ∀ (r p : List Int) (out : List UInt8) (cap : Cap) (i : Int), l = p ++ r → i = p.length → cap = .fx ∨ cap = .gr 1 → out.length + 4 * r.length ≤ 100000000000 →
    l_Z1d_0 (Mi cx) 0 0 [.sl (ints l) .no, .sl (ofBytes out) cap, .int .i64 i] [] = some (.sl (ofBytes (out ++ textR r)) .no, [])
  | [], p, out, cap, i, hp, hi, hc, ho => by
    have hlen : l.length = p.length := by rw [hp]; simp
    rw [u_Z1d_0]
    simp +contextual -implicitDefEqProofs (disch := first | assumption | omega | (simp -implicitDefEqProofs only [go_sem]; try omega)) only [↓reduceIte, go_sem, iP, iN, w64, w8, w32, b_Z1d_0, j_Z1d_0]
    simp [textR]
  | c :: r, p, out, cap, i, hp, hi, hc, ho => by
    have hlen : l.length = p.length + r.length + 1 := by rw [hp]; simp; omega
    have hl2 := hl.2
    have hg : l.getD i.toNat 0 = c := by rw [hp, hi]; simp
    have hcb : 0 ≤ c ∧ c ≤ 1114111 := hl.1 c (by rw [hp]; simp)
    have h1 := d_Right c [] wf_nil
    have hm : rowMax = 140737488355328 := rfl
    have e : out ++ textR (c :: r) = out ++ putS (if rightB c then c else 65533) ++ textR r := by rw [textR_cons, List.append_assoc]
    rw [e]
    rw [u_Z1d_0]
    cases hr : rightB c with
    | true =>
      have h2 := d_Put c hcb [] wf_nil
      have h3 := putS_len c
      have h4 := putS_ne c
      rw [hr] at h1
      have ih := d_Textloop l hl r (p ++ [c]) (out ++ putS c) (.gr 1) (i + 1) (by simp [hp]) (by simp; omega) (.inr rfl) (by simp at ho ⊢; omega)
      simp only [if_true]
      simp +contextual -implicitDefEqProofs (disch := first | assumption | omega | (simp -implicitDefEqProofs only [go_sem]; try omega)) only [↓reduceIte, go_sem, iP, iN, w64, w8, w32, b_Z1d_0, j_Z1d_0, hg, h1, h2, ih]
    | false =>
      have h2 := d_Put 65533 (by omega) [] wf_nil
      have h3 := putS_len 65533
      have h4 := putS_ne 65533
      rw [hr] at h1
      have ih := d_Textloop l hl r (p ++ [c]) (out ++ putS 65533) (.gr 1) (i + 1) (by simp [hp]) (by simp; omega) (.inr rfl) (by simp at ho ⊢; omega)
      simp only [Bool.false_eq_true, if_false]
      simp +contextual -implicitDefEqProofs (disch := first | assumption | omega | (simp -implicitDefEqProofs only [go_sem]; try omega)) only [↓reduceIte, go_sem, iP, iN, w64, w8, w32, b_Z1d_0, j_Z1d_0, hg, h1, h2, ih]
theorem ofBytes_rb (s : List UInt8) : V.rb 0 (.sl (ofBytes s) .no) = true := rbs_bytes
theorem ints_rb (l : List Int) : V.rb 0 (.sl (ints l) .no) = true := rbs_ints
theorem d_Text (l : List Int) (hl : Chs l) (σ : Objs) (hσ : Wf σ) : E cx 102 [.sl (ints l) .no] σ = some (.sl (ofBytes (textR l)) .no, σ) := by
  refine E_any cx_cl ?_ (by rw [rbs_cons, ints_rb]; rfl) (ofBytes_rb _) σ hσ
  have h := d_Textloop l hl l [] [] .fx 0 rfl rfl (.inl rfl) (by have := hl.2; simp; omega)
  simp only [List.nil_append] at h
  have h' : l_Z1d_0 (Mi cx) 0 0 [.sl (ints l) .no, .sl [] .fx, .int .i64 0] [] = some (.sl (ofBytes (textR l)) .no, []) := h
  rw [e_Z1d]
  simp +contextual -implicitDefEqProofs (disch := first | assumption | omega | (simp -implicitDefEqProofs only [go_sem]; try omega)) only [↓reduceIte, go_sem, iP, iN, w64, w8, w32, s_Z1d, h']
def nz (c : Int) : Int := if c = 0 then 65533 else c
def textS (l : List Int) : List UInt8 := textR (l.map nz)
theorem Chs.nz {l : List Int} (h : Chs l) : Chs (l.map nz) := by
  refine ⟨fun c hc => ?_, by simpa using h.2⟩
  obtain ⟨d, hd, rfl⟩ := List.mem_map.1 hc
  have := h.1 d hd
  unfold Proofs.YtkgkmlhljeidhaaGreatDoor.nz
  split <;> omega
theorem d_textloop (l : List Int) (hl : Chs l) : ∀ (r p out : List Int) (cap : Cap) (i : Int), l = p ++ r → i = p.length → cap = .fx ∨ cap = .gr 1 → out = p.map nz →
    l_Z2a_0 (Mi cx) 0 0 [.sl (ints l) .no, .sl (ints out) cap, .int .i64 i] [] = some (.str (textS l), [])
  | [], p, out, cap, i, hp, hi, hc, ho => by
    have hlen : l.length = p.length := by rw [hp]; simp
    have h1 := d_Text (l.map nz) hl.nz [] wf_nil
    have e : out = l.map nz := by rw [ho, hp]; simp
    subst e
    rw [u_Z2a_0]
    simp +contextual -implicitDefEqProofs (disch := first | assumption | omega | (simp -implicitDefEqProofs only [go_sem]; try omega)) only [↓reduceIte, go_sem, iP, iN, w64, w8, w32, b_Z2a_0, j_Z2a_0, h1, textS]
  | c :: r, p, out, cap, i, hp, hi, hc, ho => by
    have hlen : l.length = p.length + r.length + 1 := by rw [hp]; simp; omega
    have hl2 := hl.2
    have hg : l.getD i.toNat 0 = c := by rw [hp, hi]; simp
    have hm : rowMax = 140737488355328 := rfl
    have hol : out.length = p.length := by rw [ho]; simp
    have ih := d_textloop l hl r (p ++ [c]) (out ++ [nz c]) (.gr 1) (i + 1) (by simp [hp]) (by simp; omega) (.inr rfl) (by simp [ho])
    rw [u_Z2a_0]
    by_cases h0 : c = 0
    · have e : nz c = 65533 := by simp [nz, h0]
      rw [e] at ih
      simp +contextual -implicitDefEqProofs (disch := first | assumption | omega | (simp -implicitDefEqProofs only [go_sem]; try omega)) only [↓reduceIte, go_sem, iP, iN, w64, w8, w32, b_Z2a_0, j_Z2a_0, hg, ih, h0]
    · have e : nz c = c := by simp [nz, h0]
      rw [e] at ih
      simp +contextual -implicitDefEqProofs (disch := first | assumption | omega | (simp -implicitDefEqProofs only [go_sem]; try omega)) only [↓reduceIte, go_sem, iP, iN, w64, w8, w32, b_Z2a_0, j_Z2a_0, hg, ih, h0]
theorem d_text (l : List Int) (hl : Chs l) (c : Cap) (σ : Objs) (hσ : Wf σ) : E cx 85 [.sl (ints l) .no] σ = some (.str (textS l), σ) := by
  refine E_any cx_cl ?_ (by rw [rbs_cons, ints_rb]; rfl) rfl σ hσ
  have h := d_textloop l hl l [] [] .fx 0 rfl rfl (.inl rfl) rfl
  have h' : l_Z2a_0 (Mi cx) 0 0 [.sl (ints l) .no, .sl [] .fx, .int .i64 0] [] = some (.str (textS l), []) := h
  rw [e_Z2a]
  simp +contextual -implicitDefEqProofs (disch := first | assumption | omega | (simp -implicitDefEqProofs only [go_sem]; try omega)) only [↓reduceIte, go_sem, iP, iN, w64, w8, w32, s_Z2a, h']
def hexDs : List UInt8 := [48, 49, 50, 51, 52, 53, 54, 55, 56, 57, 97, 98, 99, 100, 101, 102]
def hexF (s : Int) : List UInt8 → Int → Int
  | [], _ => -1
  | b :: r, i => if (b.toNat : Int) = s then i else hexF s r (i + 1)
def hexZ (c : Int) : Int := hexF (smallZ c) hexDs 0
theorem hexF_le (s : Int) : ∀ (r : List UInt8) (i : Int), 0 ≤ i → -1 ≤ hexF s r i ∧ hexF s r i < i + r.length ∨ (r = [] ∧ hexF s r i = -1)
  | [], i, hi => .inr ⟨rfl, rfl⟩
  | b :: r, i, hi => by
    left
    unfold hexF
    split
    · simp; omega
    · rcases hexF_le s r (i + 1) (by omega) with h | ⟨h1, h2⟩
      · simp at h ⊢; omega
      · rw [h2]; simp; omega
theorem hexZ_le (c : Int) : -1 ≤ hexZ c ∧ hexZ c ≤ 15 := by
  rcases hexF_le (smallZ c) hexDs 0 (by omega) with h | h
  · have : hexDs.length = 16 := rfl
    unfold hexZ; omega
  · exact absurd h.1 (by simp [hexDs])
theorem d_hexloop (c : Int) (hc : 0 ≤ c ∧ c ≤ 1114111) : ∀ (r p : List UInt8) (i : Int), hexDs = p ++ r → i = p.length →
    l_Z1k_0 (Mi cx) 0 0 [.int .i64 c, .str hexDs, .int .i64 i] [] = some (.int .i64 (hexF (smallZ c) r i), [])
  | [], p, i, hp, hi => by
    have hlen : hexDs.length = p.length := by rw [hp]; simp
    have hlen2 : hexDs.length = 16 := rfl
    rw [u_Z1k_0]
    simp +contextual -implicitDefEqProofs (disch := first | assumption | omega | (simp -implicitDefEqProofs only [go_sem]; try omega)) only [↓reduceIte, go_sem, iP, iN, w64, w8, w32, b_Z1k_0, hexF]
  | b :: r, p, i, hp, hi => by
    have hlen : hexDs.length = p.length + r.length + 1 := by rw [hp]; simp; omega
    have hlen2 : hexDs.length = 16 := rfl
    have hb := u8_lt b
    have hg : hexDs.getD i.toNat 0 = b := by rw [hp, hi]; simp
    have h1 := d_Small c (by omega) [] wf_nil
    have ih := d_hexloop c hc r (p ++ [b]) (i + 1) (by simp [hp]) (by simp; omega)
    rw [u_Z1k_0]
    by_cases h : (b.toNat : Int) = smallZ c
    · simp +contextual -implicitDefEqProofs (disch := first | assumption | omega | (simp -implicitDefEqProofs only [go_sem]; try omega)) only [↓reduceIte, go_sem, iP, iN, w64, w8, w32, b_Z1k_0, hexF, hg, h1]
    · simp +contextual -implicitDefEqProofs (disch := first | assumption | omega | (simp -implicitDefEqProofs only [go_sem]; try omega)) only [↓reduceIte, go_sem, iP, iN, w64, w8, w32, b_Z1k_0, hexF, hg, h1, ih]
theorem d_Hex (c : Int) (hc : 0 ≤ c ∧ c ≤ 1114111) (σ : Objs) (hσ : Wf σ) : E cx 111 [.int .i64 c] σ = some (.int .i64 (hexZ c), σ) := by
  refine E_any cx_cl ?_ rfl rfl σ hσ
  have h := d_hexloop c hc hexDs [] 0 rfl rfl
  unfold hexDs at h
  rw [e_Z1k]
  simp +contextual -implicitDefEqProofs (disch := first | assumption | omega | (simp -implicitDefEqProofs only [go_sem]; try omega)) only [↓reduceIte, go_sem, iP, iN, w64, w8, w32, s_Z1k, h, hexZ, hexDs]
end Go.Proofs.YtkgkmlhljeidhaaGreatDoor
set_option linter.unusedSimpArgs false
set_option linter.unusedVariables false
set_option linter.unusedSectionVars false
namespace Go.Proofs.YtkgkmlhljeidhaaGreatDoor
open Go.Ev
set_option maxRecDepth 100000
def valF (l : List Int) : Nat → Int → Int → Int × Int
  | 0, i, n => (i, n)
  | f + 1, i, n => if i < l.length ∧ 0 ≤ hexZ (l.getD i.toNat 0) then valF l f (i + 1) (16 * n + hexZ (l.getD i.toNat 0)) else (i, n)
def valE (l : List Int) (a : Int) (r : Int × Int) : Int × Int :=
  if r.1 = a + 1 then (l.getD r.1.toNat 0, r.1 + 1)
  else (if r.2 = 0 ∨ rightB r.2 = false then 65533 else r.2, if spB l r.1 then r.1 + 1 else r.1)
def valS (l : List Int) (a : Int) : Int × Int := if (l.length : Int) ≤ a + 1 then (65533, a + 1) else valE l a (valF l 6 (a + 1) 0)
theorem valEnd (l : List Int) (hl : Chs l) (a i n : Int) (ha : 0 ≤ a ∧ a + 1 < l.length) (hi : a + 1 ≤ i ∧ i ≤ a + 7) (hn : 0 ≤ n ∧ n ≤ 16777216)
    (hstop : ¬ (i < l.length ∧ i < a + 7 ∧ 0 ≤ hexZ (l.getD i.toNat 0))) :
    l_Z1v_0 (Mi cx) 0 0 [.sl (ints l) .no, .int .i64 a, .int .i64 i, .int .i64 n] [] = some (.tup [.int .i64 (valE l a (i, n)).1, .int .i64 (valE l a (i, n)).2], []) := by
  have hl2 := hl.2
  have hg := hl.get i.toNat
  have hx := hexZ_le (l.getD i.toNat 0)
  have h1 := d_Hex (l.getD i.toNat 0) hg [] wf_nil
  have h2 := d_space hl (i := i) (by omega) [] wf_nil
  have h3 := d_Right n [] wf_nil
  rw [u_Z1v_0]
  by_cases he : i = a + 1
  · subst he
    simp +contextual -implicitDefEqProofs (disch := first | assumption | omega | (simp -implicitDefEqProofs only [go_sem]; try omega)) only [↓reduceIte, go_sem, iP, iN, w64, w8, w32, b_Z1v_0, j_Z1v_0, j_Z1v_1, h1, h2, h3, valE]
  · by_cases hlt : i < l.length ∧ i < a + 7
    · have hh : ¬ 0 ≤ hexZ (l.getD i.toNat 0) := fun h => hstop ⟨hlt.1, hlt.2, h⟩
      cases hs : spB l i <;> cases hr : rightB n <;> by_cases hn0 : n = 0 <;> simp +contextual -implicitDefEqProofs (disch := first | assumption | omega | (simp -implicitDefEqProofs only [go_sem]; try omega)) only [↓reduceIte, go_sem, iP, iN, w64, w8, w32, b_Z1v_0, j_Z1v_0, j_Z1v_1, h1, h2, h3, valE, hs, hr, hn0]
    · cases hs : spB l i <;> cases hr : rightB n <;> by_cases hn0 : n = 0 <;> simp +contextual -implicitDefEqProofs (disch := first | assumption | omega | (simp -implicitDefEqProofs only [go_sem]; try omega)) only [↓reduceIte, go_sem, iP, iN, w64, w8, w32, b_Z1v_0, j_Z1v_0, j_Z1v_1, h1, h2, h3, valE, hs, hr, hn0]
theorem d_valloop (l : List Int) (hl : Chs l) (a : Int) (ha : 0 ≤ a ∧ a + 1 < l.length) : ∀ (f : Nat) (i n : Int), i + f = a + 7 → a + 1 ≤ i → 0 ≤ n → (n + 1) * 16 ^ f ≤ 16777216 →
    l_Z1v_0 (Mi cx) 0 0 [.sl (ints l) .no, .int .i64 a, .int .i64 i, .int .i64 n] [] = some (.tup [.int .i64 (valE l a (valF l f i n)).1, .int .i64 (valE l a (valF l f i n)).2], [])
  | 0, i, n, hf, hi, hn, hp => valEnd l hl a i n ha (by omega) (by simp at hp; omega) (by omega)
  | f + 1, i, n, hf, hi, hn, hp => by
    have hpos0 : (0 : Int) < 16 ^ f := Int.pow_pos (by omega)
    have hpos : (1 : Int) ≤ 16 ^ f := by omega
    have hp2 : (n + 1) * 16 ^ (f + 1) = (16 * n + 16) * 16 ^ f := by rw [Int.pow_succ]; rw [Int.mul_comm (16 ^ f) 16, ← Int.mul_assoc]; congr 1; omega
    have hn1 : (n + 1) * 1 ≤ (n + 1) * 16 ^ (f + 1) := Int.mul_le_mul_of_nonneg_left (by rw [Int.pow_succ]; omega) (by omega)
    have hnb : n ≤ 16777216 := by omega
    have hx := hexZ_le (l.getD i.toNat 0)
    unfold valF
    by_cases hc : i < l.length ∧ 0 ≤ hexZ (l.getD i.toNat 0)
    · rw [if_pos hc]
      have hl2 := hl.2
      have hg := hl.get i.toNat
      have h1 := d_Hex (l.getD i.toNat 0) hg [] wf_nil
      have hq : (16 * n + hexZ (l.getD i.toNat 0) + 1) * 16 ^ f ≤ (16 * n + 16) * 16 ^ f := Int.mul_le_mul_of_nonneg_right (by omega) (by omega)
      have ih := d_valloop l hl a ha f (i + 1) (16 * n + hexZ (l.getD i.toNat 0)) (by omega) (by omega) (by omega) (by omega)
      rw [u_Z1v_0]
      simp +contextual -implicitDefEqProofs (disch := first | assumption | omega | (simp -implicitDefEqProofs only [go_sem]; try omega)) only [↓reduceIte, go_sem, iP, iN, w64, w8, w32, b_Z1v_0, j_Z1v_0, j_Z1v_1, h1, ih]
    · rw [if_neg hc]
      exact valEnd l hl a i n ha (by omega) (by omega) (fun h => hc ⟨h.1, h.2.2⟩)
theorem d_Value (l : List Int) (hl : Chs l) (a : Int) (ha : 0 ≤ a ∧ a ≤ 1000000000) (σ : Objs) (hσ : Wf σ) : E cx 96 [.sl (ints l) .no, .int .i64 a] σ = some (.tup [.int .i64 (valS l a).1, .int .i64 (valS l a).2], σ) := by
  refine E_any cx_cl ?_ (by rw [rbs_cons, ints_rb]; rfl) rfl σ hσ
  have hl2 := hl.2
  rw [e_Z1v]
  by_cases h : (l.length : Int) ≤ a + 1
  · simp +contextual -implicitDefEqProofs (disch := first | assumption | omega | (simp -implicitDefEqProofs only [go_sem]; try omega)) only [↓reduceIte, go_sem, iP, iN, w64, w8, w32, s_Z1v, valS]
  · have h1 := d_valloop l hl a (by omega) 6 (a + 1) 0 (by omega) (by omega) (by omega) (by decide)
    simp +contextual -implicitDefEqProofs (disch := first | assumption | omega | (simp -implicitDefEqProofs only [go_sem]; try omega)) only [↓reduceIte, go_sem, iP, iN, w64, w8, w32, s_Z1v, valS, h1]
theorem valF_pos (l : List Int) : ∀ (f : Nat) (i n : Int), i ≤ l.length → i ≤ (valF l f i n).1 ∧ (valF l f i n).1 ≤ l.length
  | 0, i, n, h => ⟨Int.le_refl _, h⟩
  | f + 1, i, n, h => by
    unfold valF
    split
    · rename_i hc
      have := valF_pos l f (i + 1) (16 * n + hexZ (l.getD i.toNat 0)) (by omega)
      omega
    · exact ⟨Int.le_refl _, h⟩
theorem spB_lt {l : List Int} {i : Int} (h : spB l i = true) : i < l.length := by
  unfold spB at h
  simp only [Bool.and_eq_true, decide_eq_true_eq] at h
  exact h.1
theorem valS_pos (l : List Int) (a : Int) (h : a < l.length) : a + 1 ≤ (valS l a).2 ∧ (valS l a).2 ≤ l.length := by
  unfold valS
  split
  · show a + 1 ≤ a + 1 ∧ a + 1 ≤ (l.length : Int); omega
  · have h1 := valF_pos l 6 (a + 1) 0 (by omega)
    unfold valE
    split
    · rename_i he
      show a + 1 ≤ (valF l 6 (a + 1) 0).1 + 1 ∧ (valF l 6 (a + 1) 0).1 + 1 ≤ (l.length : Int)
      omega
    · show a + 1 ≤ (if spB l (valF l 6 (a + 1) 0).1 then (valF l 6 (a + 1) 0).1 + 1 else (valF l 6 (a + 1) 0).1) ∧ (if spB l (valF l 6 (a + 1) 0).1 then (valF l 6 (a + 1) 0).1 + 1 else (valF l 6 (a + 1) 0).1) ≤ (l.length : Int)
      split
      · rename_i hs
        have := spB_lt hs
        omega
      · omega
theorem rightB_le {n : Int} (h : rightB n = true) : 0 ≤ n ∧ n ≤ 1114111 := by
  unfold rightB at h
  simp only [Bool.and_eq_true, decide_eq_true_eq] at h
  omega
theorem valS_val (l : List Int) (hl : Chs l) (a : Int) : 0 ≤ (valS l a).1 ∧ (valS l a).1 ≤ 1114111 := by
  unfold valS
  split
  · show (0 : Int) ≤ 65533 ∧ (65533 : Int) ≤ 1114111; omega
  · unfold valE
    split
    · exact hl.get _
    · show 0 ≤ (if (valF l 6 (a + 1) 0).2 = 0 ∨ rightB (valF l 6 (a + 1) 0).2 = false then (65533 : Int) else (valF l 6 (a + 1) 0).2) ∧ (if (valF l 6 (a + 1) 0).2 = 0 ∨ rightB (valF l 6 (a + 1) 0).2 = false then (65533 : Int) else (valF l 6 (a + 1) 0).2) ≤ 1114111
      split
      · omega
      · rename_i h
        have : rightB (valF l 6 (a + 1) 0).2 = true := by
          cases hr : rightB (valF l 6 (a + 1) 0).2
          · exact absurd (.inr hr) h
          · rfl
        exact rightB_le this
def namesF (l : List Int) : Nat → Int → List Int → List Int × Int
  | 0, a, out => (out, a)
  | f + 1, a, out => if inB l a then namesF l f (a + 1) (out ++ [l.getD a.toNat 0]) else if escB l a then namesF l f (valS l a).2 (out ++ [(valS l a).1]) else (out, a)
def namesS (l : List Int) (a : Int) : List UInt8 × Int := (textS (namesF l (l.length + 1) a []).1, (namesF l (l.length + 1) a []).2)
theorem inB_lt {l : List Int} {i : Int} (h : inB l i = true) : i < l.length := by
  unfold inB at h
  simp only [Bool.and_eq_true, decide_eq_true_eq] at h
  exact h.1
theorem isB_lt {l : List Int} {i c : Int} (h : isB l i c = true) : i < l.length := by
  unfold isB at h
  simp only [Bool.and_eq_true, decide_eq_true_eq] at h
  exact h.1
theorem escB_lt {l : List Int} {i : Int} (h : escB l i = true) : i < l.length := by
  unfold escB at h
  simp only [Bool.and_eq_true] at h
  exact isB_lt h.1
theorem chs_snoc {out : List Int} {x : Int} (h : ∀ c ∈ out, 0 ≤ c ∧ c ≤ 1114111) (hx : 0 ≤ x ∧ x ≤ 1114111) : ∀ c ∈ out ++ [x], 0 ≤ c ∧ c ≤ 1114111 := by
  intro c hc
  rcases List.mem_append.1 hc with hc | hc
  · exact h c hc
  · rw [List.mem_singleton.1 hc]; exact hx
theorem d_namesloop (l : List Int) (hl : Chs l) : ∀ (f : Nat) (a : Int) (out : List Int) (cap : Cap), (l.length : Int) - a < f → 0 ≤ a ∧ a ≤ l.length → cap = .fx ∨ cap = .gr 1 → (∀ c ∈ out, 0 ≤ c ∧ c ≤ 1114111) → (out.length : Int) ≤ a →
    l_Z23_0 (Mi cx) 0 0 [.sl (ints l) .no, .int .i64 a, .sl (ints out) cap] [] = some (.tup [.str (textS (namesF l f a out).1), .int .i64 (namesF l f a out).2], [])
  | 0, a, out, cap, hf, ha, hc, ho, hn => by omega
  | f + 1, a, out, cap, hf, ha, hc, ho, hn => by
    have hl2 := hl.2
    have hm : rowMax = 140737488355328 := rfl
    have h1 := d_inner hl (i := a) (by omega) [] wf_nil
    have h2 := d_Escape hl (i := a) (by omega) [] wf_nil
    rw [u_Z23_0]
    cases hin : inB l a with
    | true =>
      have hlt := inB_lt hin
      have hg := hl.get a.toNat
      have ih := d_namesloop l hl f (a + 1) (out ++ [l.getD a.toNat 0]) (.gr 1) (by omega) (by omega) (.inr rfl) (chs_snoc ho hg) (by simp; omega)
      simp +contextual -implicitDefEqProofs (disch := first | assumption | omega | (simp -implicitDefEqProofs only [go_sem]; try omega)) only [↓reduceIte, go_sem, iP, iN, w64, w8, w32, b_Z23_0, j_Z23_0, h1, hin, ih, namesF]
    | false =>
      cases hes : escB l a with
      | true =>
        have hlt := escB_lt hes
        have h3 := d_Value l hl a (by omega) [] wf_nil
        have hv := valS_pos l a hlt
        have ih := d_namesloop l hl f (valS l a).2 (out ++ [(valS l a).1]) (.gr 1) (by omega) (by omega) (.inr rfl) (chs_snoc ho (valS_val l hl a)) (by simp; omega)
        simp +contextual -implicitDefEqProofs (disch := first | assumption | omega | (simp -implicitDefEqProofs only [go_sem]; try omega)) only [↓reduceIte, go_sem, iP, iN, w64, w8, w32, b_Z23_0, j_Z23_0, h1, h2, h3, hin, hes, ih, namesF]
      | false =>
        have h3 := d_text out ⟨ho, by omega⟩ .no [] wf_nil
        simp +contextual -implicitDefEqProofs (disch := first | assumption | omega | (simp -implicitDefEqProofs only [go_sem]; try omega)) only [↓reduceIte, go_sem, iP, iN, w64, w8, w32, b_Z23_0, j_Z23_0, h1, h2, h3, hin, hes, namesF]
theorem d_names (l : List Int) (hl : Chs l) (a : Int) (ha : 0 ≤ a ∧ a ≤ l.length) (σ : Objs) (hσ : Wf σ) : E cx 82 [.sl (ints l) .no, .int .i64 a] σ = some (.tup [.str (namesS l a).1, .int .i64 (namesS l a).2], σ) := by
  refine E_any cx_cl ?_ (by rw [rbs_cons, ints_rb]; rfl) rfl σ hσ
  have h := d_namesloop l hl (l.length + 1) a [] .fx (by omega) ha (.inl rfl) (by simp) (by simp; omega)
  have h' : l_Z23_0 (Mi cx) 0 0 [.sl (ints l) .no, .int .i64 a, .sl [] .fx] [] = some (.tup [.str (namesS l a).1, .int .i64 (namesS l a).2], []) := h
  rw [e_Z23]
  simp +contextual -implicitDefEqProofs (disch := first | assumption | omega | (simp -implicitDefEqProofs only [go_sem]; try omega)) only [↓reduceIte, go_sem, iP, iN, w64, w8, w32, s_Z23, h']
end Go.Proofs.YtkgkmlhljeidhaaGreatDoor
set_option linter.unusedSimpArgs false
set_option linter.unusedVariables false
set_option linter.unusedSectionVars false
namespace Go.Proofs.YtkgkmlhljeidhaaGreatDoor
open Go.Ev
set_option maxRecDepth 100000
def sgB (l : List Int) (a : Int) : Bool := isB l a 43 || isB l a 45
def sg (l : List Int) (a : Int) : Int := if sgB l a then a + 1 else a
def numB (l : List Int) (a : Int) : Bool := dgB l (sg l a) || isB l (sg l a) 46 && dgB l (sg l a + 1)
def dgE (l : List Int) : Nat → Int → Int
  | 0, a => a
  | f + 1, a => if dgB l a then dgE l f (a + 1) else a
def dE (l : List Int) (a : Int) : Int := dgE l (l.length + 1) a
def expS (l : List Int) (a : Int) (w : Bool) : Int × Bool :=
  if isB l a 101 || isB l a 69 then (if dgB l (sg l (a + 1)) then (dE l (sg l (a + 1)), false) else (a, w)) else (a, w)
def fracS (l : List Int) (a : Int) (w : Bool) : Int × Bool := if isB l a 46 && dgB l (a + 1) then expS l (dE l (a + 1)) false else expS l a w
def digS (l : List Int) (a : Int) : Int × Bool := fracS l (dE l (sg l a)) true
theorem dgB_lt {l : List Int} {i : Int} (h : dgB l i = true) : i < l.length := by
  unfold dgB at h
  simp only [Bool.and_eq_true, decide_eq_true_eq] at h
  exact h.1
theorem sg_pos (l : List Int) (a : Int) : a ≤ sg l a ∧ sg l a ≤ a + 1 ∧ (a ≤ l.length → sg l a ≤ l.length) := by
  unfold sg
  split
  · rename_i h
    unfold sgB at h
    rcases (Bool.or_eq_true _ _).mp h with h | h
    · have := isB_lt h; omega
    · have := isB_lt h; omega
  · omega
theorem dgE_pos (l : List Int) : ∀ (f : Nat) (a : Int), a ≤ l.length → a ≤ dgE l f a ∧ dgE l f a ≤ l.length
  | 0, a, h => ⟨Int.le_refl _, h⟩
  | f + 1, a, h => by
    unfold dgE
    split
    · rename_i hd
      have h1 := dgB_lt hd
      have := dgE_pos l f (a + 1) (by omega)
      omega
    · exact ⟨Int.le_refl _, h⟩
theorem dE_pos (l : List Int) (a : Int) (h : a ≤ l.length) : a ≤ dE l a ∧ dE l a ≤ l.length := dgE_pos l _ a h
section
variable {l : List Int} (hl : Chs l)
include hl
theorem d_dig1 : ∀ (f : Nat) (a : Int) (w : Bool), (l.length : Int) - a < f → 0 ≤ a ∧ a ≤ l.length →
    l_Z1z_1 (Mi cx) 0 0 [.sl (ints l) .no, .int .i64 a, .bool w] [] = some (.tup [.int .i64 (dgE l f a), .bool w], [])
  | 0, a, w, hf, ha => by omega
  | f + 1, a, w, hf, ha => by
    have hl2 := hl.2
    have h1 := d_digit hl (i := a) (by omega) [] wf_nil
    rw [u_Z1z_1]
    cases hd : dgB l a with
    | true =>
      have hlt := dgB_lt hd
      have ih := d_dig1 f (a + 1) w (by omega) (by omega)
      simp +contextual -implicitDefEqProofs (disch := first | assumption | omega | (simp -implicitDefEqProofs only [go_sem]; try omega)) only [↓reduceIte, go_sem, iP, iN, w64, w8, w32, b_Z1z_1, j_Z1z_2, h1, hd, ih, dgE]
    | false => simp +contextual -implicitDefEqProofs (disch := first | assumption | omega | (simp -implicitDefEqProofs only [go_sem]; try omega)) only [↓reduceIte, go_sem, iP, iN, w64, w8, w32, b_Z1z_1, j_Z1z_2, h1, hd, dgE]
theorem d_exp (a : Int) (w : Bool) (ha : 0 ≤ a ∧ a ≤ l.length) :
    j_Z1z_1 (Mi cx) 0 (.sl (ints l) .no) (.int .i64 a) (.bool w) [] = some (.tup [.int .i64 (expS l a w).1, .bool (expS l a w).2], []) := by
  have hl2 := hl.2
  have h1 := d_is hl (i := a) (by omega) [] wf_nil 101
  have h2 := d_is hl (i := a) (by omega) [] wf_nil 69
  have h3 := d_is hl (i := a + 1) (by omega) [] wf_nil 43
  have h4 := d_is hl (i := a + 1) (by omega) [] wf_nil 45
  have h5 := d_digit hl (i := a + 1) (by omega) [] wf_nil
  have h6 := d_digit hl (i := a + 1 + 1) (by omega) [] wf_nil
  cases hE : (isB l a 101 || isB l a 69) with
  | false =>
    have e : expS l a w = (a, w) := by unfold expS; rw [hE]; rfl
    rw [e]
    have e1 : isB l a 101 = false := by cases h : isB l a 101 <;> simp [h] at hE ⊢
    have e2 : isB l a 69 = false := by cases h : isB l a 69 <;> simp [h] at hE ⊢
    simp +contextual -implicitDefEqProofs (disch := first | assumption | omega | (simp -implicitDefEqProofs only [go_sem]; try omega)) only [↓reduceIte, go_sem, iP, iN, w64, w8, w32, j_Z1z_1, j_Z1z_2, h1, h2, e1, e2]
  | true =>
    have hS : (isB l (a + 1) 43 || isB l (a + 1) 45) = sgB l (a + 1) := rfl
    have hlt : a < l.length := by
      rcases (Bool.or_eq_true _ _).mp hE with h | h
      · exact isB_lt h
      · exact isB_lt h
    have hEp : isB l a 101 = true ∨ isB l a 69 = true := (Bool.or_eq_true _ _).mp hE
    cases hs : sgB l (a + 1) with
    | true =>
      have es : sg l (a + 1) = a + 1 + 1 := by unfold sg; rw [hs]; rfl
      have hsp := (sg_pos l (a + 1)).2.2 (by omega)
      have hSp : isB l (a + 1) 43 = true ∨ isB l (a + 1) 45 = true := (Bool.or_eq_true _ _).mp hs
      cases hd : dgB l (a + 1 + 1) with
      | true =>
        have hlt2 := dgB_lt hd
        have h7 := d_dig1 hl (l.length + 1) (a + 1 + 1) false (by omega) (by omega)
        have e : expS l a w = (dgE l (l.length + 1) (a + 1 + 1), false) := by unfold expS; rw [hE, es, hd]; rfl
        rw [e]
        simp +contextual -implicitDefEqProofs (disch := first | assumption | omega | (simp -implicitDefEqProofs only [go_sem]; try omega)) only [↓reduceIte, go_sem, iP, iN, w64, w8, w32, j_Z1z_1, j_Z1z_2, j_Z1z_3, h1, h2, h3, h4, h5, h6, hd, h7, hEp, hSp]
      | false =>
        have e : expS l a w = (a, w) := by unfold expS; rw [hE, es, hd]; rfl
        rw [e]
        simp +contextual -implicitDefEqProofs (disch := first | assumption | omega | (simp -implicitDefEqProofs only [go_sem]; try omega)) only [↓reduceIte, go_sem, iP, iN, w64, w8, w32, j_Z1z_1, j_Z1z_2, j_Z1z_3, h1, h2, h3, h4, h5, h6, hd, hEp, hSp]
    | false =>
      have es : sg l (a + 1) = a + 1 := by unfold sg; rw [hs]; rfl
      have e1 : isB l (a + 1) 43 = false := by cases h : isB l (a + 1) 43 <;> simp [sgB, h] at hs ⊢
      have e2 : isB l (a + 1) 45 = false := by cases h : isB l (a + 1) 45 <;> simp [sgB, h] at hs ⊢
      cases hd : dgB l (a + 1) with
      | true =>
        have hlt2 := dgB_lt hd
        have h7 := d_dig1 hl (l.length + 1) (a + 1) false (by omega) (by omega)
        have e : expS l a w = (dgE l (l.length + 1) (a + 1), false) := by unfold expS; rw [hE, es, hd]; rfl
        rw [e]
        simp +contextual -implicitDefEqProofs (disch := first | assumption | omega | (simp -implicitDefEqProofs only [go_sem]; try omega)) only [↓reduceIte, go_sem, iP, iN, w64, w8, w32, j_Z1z_1, j_Z1z_2, j_Z1z_3, h1, h2, h3, h4, h5, h6, hd, h7, hEp, e1, e2]
      | false =>
        have e : expS l a w = (a, w) := by unfold expS; rw [hE, es, hd]; rfl
        rw [e]
        simp +contextual -implicitDefEqProofs (disch := first | assumption | omega | (simp -implicitDefEqProofs only [go_sem]; try omega)) only [↓reduceIte, go_sem, iP, iN, w64, w8, w32, j_Z1z_1, j_Z1z_2, j_Z1z_3, h1, h2, h3, h4, h5, h6, hd, hEp, e1, e2]
theorem d_dig2 : ∀ (f : Nat) (a : Int) (w : Bool), (l.length : Int) - a < f → 0 ≤ a ∧ a ≤ l.length →
    l_Z1z_2 (Mi cx) 0 0 [.sl (ints l) .no, .int .i64 a, .bool w] [] = some (.tup [.int .i64 (expS l (dgE l f a) w).1, .bool (expS l (dgE l f a) w).2], [])
  | 0, a, w, hf, ha => by omega
  | f + 1, a, w, hf, ha => by
    have hl2 := hl.2
    have h1 := d_digit hl (i := a) (by omega) [] wf_nil
    rw [u_Z1z_2]
    cases hd : dgB l a with
    | true =>
      have hlt := dgB_lt hd
      have ih := d_dig2 f (a + 1) w (by omega) (by omega)
      simp +contextual -implicitDefEqProofs (disch := first | assumption | omega | (simp -implicitDefEqProofs only [go_sem]; try omega)) only [↓reduceIte, go_sem, iP, iN, w64, w8, w32, b_Z1z_2, h1, hd, ih, dgE]
    | false =>
      have h2 := d_exp hl a w ha
      simp +contextual -implicitDefEqProofs (disch := first | assumption | omega | (simp -implicitDefEqProofs only [go_sem]; try omega)) only [↓reduceIte, go_sem, iP, iN, w64, w8, w32, b_Z1z_2, h1, hd, h2, dgE]
theorem d_dig0 : ∀ (f : Nat) (a : Int) (w : Bool), (l.length : Int) - a < f → 0 ≤ a ∧ a ≤ l.length →
    l_Z1z_0 (Mi cx) 0 0 [.sl (ints l) .no, .int .i64 a, .bool w] [] = some (.tup [.int .i64 (fracS l (dgE l f a) w).1, .bool (fracS l (dgE l f a) w).2], [])
  | 0, a, w, hf, ha => by omega
  | f + 1, a, w, hf, ha => by
    have hl2 := hl.2
    have h1 := d_digit hl (i := a) (by omega) [] wf_nil
    rw [u_Z1z_0]
    cases hd : dgB l a with
    | true =>
      have hlt := dgB_lt hd
      have ih := d_dig0 f (a + 1) w (by omega) (by omega)
      simp +contextual -implicitDefEqProofs (disch := first | assumption | omega | (simp -implicitDefEqProofs only [go_sem]; try omega)) only [↓reduceIte, go_sem, iP, iN, w64, w8, w32, b_Z1z_0, h1, hd, ih, dgE]
    | false =>
      have h2 := d_exp hl a w ha
      have h3 := d_is hl (i := a) (by omega) [] wf_nil 46
      have h4 := d_digit hl (i := a + 1) (by omega) [] wf_nil
      cases hi : isB l a 46 with
      | false => simp +contextual -implicitDefEqProofs (disch := first | assumption | omega | (simp -implicitDefEqProofs only [go_sem]; try omega)) only [↓reduceIte, go_sem, iP, iN, w64, w8, w32, b_Z1z_0, h1, hd, h2, h3, dgE, hi, fracS]
      | true =>
        cases hd2 : dgB l (a + 1) with
        | false => simp +contextual -implicitDefEqProofs (disch := first | assumption | omega | (simp -implicitDefEqProofs only [go_sem]; try omega)) only [↓reduceIte, go_sem, iP, iN, w64, w8, w32, b_Z1z_0, h1, hd, h2, h3, h4, dgE, hi, hd2, fracS]
        | true =>
          have hlt := dgB_lt hd2
          have h5 := d_dig2 hl (l.length + 1) (a + 1) false (by omega) (by omega)
          simp +contextual -implicitDefEqProofs (disch := first | assumption | omega | (simp -implicitDefEqProofs only [go_sem]; try omega)) only [↓reduceIte, go_sem, iP, iN, w64, w8, w32, b_Z1z_0, h1, hd, h2, h3, h4, h5, dgE, hi, hd2, fracS, dE]
theorem d_rdigits (a : Int) (ha : 0 ≤ a ∧ a ≤ l.length) (σ : Objs) (hσ : Wf σ) : E cx 98 [.sl (ints l) .no, .int .i64 a] σ = some (.tup [.int .i64 (digS l a).1, .bool (digS l a).2], σ) := by
  refine E_any cx_cl ?_ (by rw [rbs_cons, ints_rb]; rfl) rfl σ hσ
  have hl2 := hl.2
  have h1 := d_is hl (i := a) (by omega) [] wf_nil 43
  have h2 := d_is hl (i := a) (by omega) [] wf_nil 45
  have hp := sg_pos l a
  have h3 := d_dig0 hl (l.length + 1) (sg l a) true (by omega) (by omega)
  have e : (fracS l (dgE l (l.length + 1) (sg l a)) true) = digS l a := rfl
  rw [e] at h3
  rw [e_Z1z]
  cases hs : sgB l a with
  | true =>
    have es : sg l a = a + 1 := by unfold sg; rw [hs]; rfl
    rw [es] at h3
    have hSp : isB l a 43 = true ∨ isB l a 45 = true := (Bool.or_eq_true _ _).mp hs
    simp +contextual -implicitDefEqProofs (disch := first | assumption | omega | (simp -implicitDefEqProofs only [go_sem]; try omega)) only [↓reduceIte, go_sem, iP, iN, w64, w8, w32, s_Z1z, j_Z1z_0, h1, h2, h3, hSp]
  | false =>
    have es : sg l a = a := by unfold sg; rw [hs]; rfl
    rw [es] at h3
    have e1 : isB l a 43 = false := by cases h : isB l a 43 <;> simp [sgB, h] at hs ⊢
    have e2 : isB l a 45 = false := by cases h : isB l a 45 <;> simp [sgB, h] at hs ⊢
    simp +contextual -implicitDefEqProofs (disch := first | assumption | omega | (simp -implicitDefEqProofs only [go_sem]; try omega)) only [↓reduceIte, go_sem, iP, iN, w64, w8, w32, s_Z1z, j_Z1z_0, h1, h2, h3, e1, e2]
theorem d_number (a : Int) (ha : 0 ≤ a ∧ a ≤ l.length) (σ : Objs) (hσ : Wf σ) : E cx 77 [.sl (ints l) .no, .int .i64 a] σ = some (.bool (numB l a), σ) := by
  have hl2 := hl.2
  have h1 := d_is hl (i := a) (by omega) σ hσ 43
  have h2 := d_is hl (i := a) (by omega) σ hσ 45
  have hp := sg_pos l a
  have h3 := d_digit hl (i := sg l a) (by omega) σ hσ
  have h4 := d_is hl (i := sg l a) (by omega) σ hσ 46
  have h5 := d_digit hl (i := sg l a + 1) (by omega) σ hσ
  rw [e_Z24]
  unfold numB
  cases hs : sgB l a with
  | true =>
    have es : sg l a = a + 1 := by unfold sg; rw [hs]; rfl
    rw [es] at h3 h4 h5 ⊢
    have hSp : isB l a 43 = true ∨ isB l a 45 = true := (Bool.or_eq_true _ _).mp hs
    simp +contextual -implicitDefEqProofs (disch := first | assumption | omega | (simp -implicitDefEqProofs only [go_sem]; try omega)) only [↓reduceIte, go_sem, iP, iN, w64, w8, w32, s_Z24, j_Z24_0, h1, h2, h3, h4, h5, hSp]
  | false =>
    have es : sg l a = a := by unfold sg; rw [hs]; rfl
    rw [es] at h3 h4 h5 ⊢
    have e1 : isB l a 43 = false := by cases h : isB l a 43 <;> simp [sgB, h] at hs ⊢
    have e2 : isB l a 45 = false := by cases h : isB l a 45 <;> simp [sgB, h] at hs ⊢
    simp +contextual -implicitDefEqProofs (disch := first | assumption | omega | (simp -implicitDefEqProofs only [go_sem]; try omega)) only [↓reduceIte, go_sem, iP, iN, w64, w8, w32, s_Z24, j_Z24_0, h1, h2, h3, h4, h5, e1, e2]
end
end Go.Proofs.YtkgkmlhljeidhaaGreatDoor
set_option linter.unusedSimpArgs false
set_option linter.unusedVariables false
set_option linter.unusedSectionVars false
namespace Go.Proofs.YtkgkmlhljeidhaaGreatDoor
open Go.Ev
set_option maxRecDepth 100000
def hidB (c : Int) : Bool := decide (c ≤ 8) || decide (c = 11) || decide (14 ≤ c) && decide (c ≤ 31) || decide (c = 127)
theorem d_hidden (c : Int) (σ : Objs) (hσ : Wf σ) : E cx 113 [.int .i64 c] σ = some (.bool (hidB c), σ) := by
  rw [e_Z20]
  simp +contextual -implicitDefEqProofs (disch := first | assumption | omega | (simp -implicitDefEqProofs only [go_sem]; try omega)) only [↓reduceIte, go_sem, iP, iN, w64, w8, w32, s_Z20, hidB]
def cendB (l : List Int) (i : Int) : Bool := isB l i 42 && isB l (i + 1) 47
def inE (l : List Int) : Nat → Int → Int
  | 0, a => a
  | f + 1, a => if decide (a < l.length) && !cendB l a then inE l f (a + 1) else a
def comB (l : List Int) (i : Int) : Bool := isB l i 47 && isB l (i + 1) 42
def comE (l : List Int) (a : Int) : Int := if inE l (l.length + 3) (a + 2) + 2 > l.length then l.length else inE l (l.length + 3) (a + 2) + 2
def behE (l : List Int) : Nat → Int → Int
  | 0, a => a
  | f + 1, a => if comB l a then behE l f (comE l a) else a
def behS (l : List Int) (a : Int) : Int := behE l (l.length + 1) a
theorem inE_pos (l : List Int) : ∀ (f : Nat) (a : Int), a ≤ inE l f a ∧ (a ≤ l.length → inE l f a ≤ l.length)
  | 0, a => ⟨Int.le_refl _, id⟩
  | f + 1, a => by
    unfold inE
    split
    · rename_i h
      have h1 := of_decide_eq_true (Bool.and_eq_true _ _ ▸ h).1
      have := inE_pos l f (a + 1)
      omega
    · exact ⟨Int.le_refl _, id⟩
theorem comB_lt {l : List Int} {a : Int} (h : comB l a = true) : a + 1 < l.length := isB_lt (Bool.and_eq_true _ _ ▸ h).2
theorem comE_pos (l : List Int) (a : Int) (h : comB l a = true) : a < comE l a ∧ comE l a ≤ l.length := by
  have h1 := comB_lt h
  have := inE_pos l (l.length + 3) (a + 2)
  unfold comE
  split <;> omega
theorem behE_pos (l : List Int) : ∀ (f : Nat) (a : Int), a ≤ l.length → a ≤ behE l f a ∧ behE l f a ≤ l.length
  | 0, a, h => ⟨Int.le_refl _, h⟩
  | f + 1, a, h => by
    unfold behE
    split
    · rename_i hc
      have h1 := comE_pos l a hc
      have := behE_pos l f (comE l a) h1.2
      omega
    · exact ⟨Int.le_refl _, h⟩
section
variable {l : List Int} (hl : Chs l)
include hl
theorem d_beh1 (r1 : Rk) : ∀ (f : Nat) (a : Int), (l.length : Int) + 2 - a < f → 0 ≤ a ∧ a ≤ (l.length : Int) + 1 →
    l_Z1w_1 (Mi cx) 0 0 r1 0 [.sl (ints l) .no, .int .i64 a] [] =
      r1 [.sl (ints l) .no, .int .i64 (if inE l f a + 2 > l.length then l.length else inE l f a + 2)] []
  | 0, a, hf, ha => by omega
  | f + 1, a, hf, ha => by
    have hl2 := hl.2
    have h1 := d_is hl (i := a) (by omega) [] wf_nil 42
    have h2 := d_is hl (i := a + 1) (by omega) [] wf_nil 47
    rw [u_Z1w_1]
    by_cases hlt : a < l.length
    · cases hd : cendB l a with
      | true =>
        have e1 : isB l a 42 = true := (Bool.and_eq_true _ _ ▸ hd).1
        have e2 : isB l (a + 1) 47 = true := (Bool.and_eq_true _ _ ▸ hd).2
        by_cases hq : (l.length : Int) < a + 2
        · simp +contextual -implicitDefEqProofs (disch := first | assumption | omega | (simp -implicitDefEqProofs only [go_sem]; try omega)) only [↓reduceIte, go_sem, iP, iN, w64, w8, w32, b_Z1w_1, j_Z1w_0, h1, h2, e1, e2, inE, hd, hq, hlt]
        · simp +contextual -implicitDefEqProofs (disch := first | assumption | omega | (simp -implicitDefEqProofs only [go_sem]; try omega)) only [↓reduceIte, go_sem, iP, iN, w64, w8, w32, b_Z1w_1, j_Z1w_0, h1, h2, e1, e2, inE, hd, hq, hlt]
      | false =>
        have ih := d_beh1 r1 f (a + 1) (by omega) (by omega)
        cases e1 : isB l a 42 with
        | false => simp +contextual -implicitDefEqProofs (disch := first | assumption | omega | (simp -implicitDefEqProofs only [go_sem]; try omega)) only [↓reduceIte, go_sem, iP, iN, w64, w8, w32, b_Z1w_1, j_Z1w_0, h1, h2, e1, inE, hd, hlt, ih]
        | true =>
          have e2 : isB l (a + 1) 47 = false := by
            cases e2 : isB l (a + 1) 47 with
            | false => rfl
            | true => exfalso; unfold cendB at hd; rw [e1, e2] at hd; cases hd
          simp +contextual -implicitDefEqProofs (disch := first | assumption | omega | (simp -implicitDefEqProofs only [go_sem]; try omega)) only [↓reduceIte, go_sem, iP, iN, w64, w8, w32, b_Z1w_1, j_Z1w_0, h1, h2, e1, e2, inE, hd, hlt, ih]
    · have hq : (l.length : Int) < a + 2 := by omega
      simp +contextual -implicitDefEqProofs (disch := first | assumption | omega | (simp -implicitDefEqProofs only [go_sem]; try omega)) only [↓reduceIte, go_sem, iP, iN, w64, w8, w32, b_Z1w_1, j_Z1w_0, inE, hlt, hq]
theorem d_beh0 : ∀ (f : Nat) (a : Int), (l.length : Int) - a < f → 0 ≤ a ∧ a ≤ l.length →
    l_Z1w_0 (Mi cx) 0 0 [.sl (ints l) .no, .int .i64 a] [] = some (.int .i64 (behE l f a), [])
  | 0, a, hf, ha => by omega
  | f + 1, a, hf, ha => by
    have hl2 := hl.2
    have h1 := d_is hl (i := a) (by omega) [] wf_nil 47
    have h2 := d_is hl (i := a + 1) (by omega) [] wf_nil 42
    rw [u_Z1w_0]
    cases hd : comB l a with
    | true =>
      have e1 : isB l a 47 = true := (Bool.and_eq_true _ _ ▸ hd).1
      have e2 : isB l (a + 1) 42 = true := (Bool.and_eq_true _ _ ▸ hd).2
      have hlt := comB_lt hd
      have h3 := d_beh1 hl (l_Z1w_0 (Mi cx) 0 0) (l.length + 3) (a + 2) (by omega) (by omega)
      have hp := comE_pos l a hd
      have ih := d_beh0 f (comE l a) (by omega) (by omega)
      rw [← comE] at h3
      simp +contextual -implicitDefEqProofs (disch := first | assumption | omega | (simp -implicitDefEqProofs only [go_sem]; try omega)) only [↓reduceIte, go_sem, iP, iN, w64, w8, w32, b_Z1w_0, h1, h2, e1, e2, h3, ih, behE, hd]
    | false =>
      cases e1 : isB l a 47 with
      | false => simp +contextual -implicitDefEqProofs (disch := first | assumption | omega | (simp -implicitDefEqProofs only [go_sem]; try omega)) only [↓reduceIte, go_sem, iP, iN, w64, w8, w32, b_Z1w_0, h1, h2, e1, behE, hd]
      | true =>
        have e2 : isB l (a + 1) 42 = false := by
          cases e2 : isB l (a + 1) 42 with
          | false => rfl
          | true => exfalso; unfold comB at hd; rw [e1, e2] at hd; cases hd
        simp +contextual -implicitDefEqProofs (disch := first | assumption | omega | (simp -implicitDefEqProofs only [go_sem]; try omega)) only [↓reduceIte, go_sem, iP, iN, w64, w8, w32, b_Z1w_0, h1, h2, e1, e2, behE, hd]
theorem d_behind (a : Int) (ha : 0 ≤ a ∧ a ≤ l.length) (σ : Objs) (hσ : Wf σ) : E cx 73 [.sl (ints l) .no, .int .i64 a] σ = some (.int .i64 (behS l a), σ) := by
  refine E_any cx_cl ?_ (by rw [rbs_cons, ints_rb]; rfl) rfl σ hσ
  have hl2 := hl.2
  have h := d_beh0 hl (l.length + 1) a (by omega) (by omega)
  rw [e_Z1w]
  simp +contextual -implicitDefEqProofs (disch := first | assumption | omega | (simp -implicitDefEqProofs only [go_sem]; try omega)) only [↓reduceIte, go_sem, iP, iN, w64, w8, w32, s_Z1w, h, behS]
end
end Go.Proofs.YtkgkmlhljeidhaaGreatDoor
set_option linter.unusedSimpArgs false
set_option linter.unusedVariables false
set_option linter.unusedSectionVars false
namespace Go.Ev
theorem sto0_agg {sz off : Nat} {cs ds : List V} {t : V} {τ : Objs} (h1 : ds.length = sz) (h2 : off + sz ≤ cs.length) (h3 : okCells ds = true) :
    stV (.cells cs :: τ) sz (.ptr 0 off) (.agg ds) t = some (.undef, .cells (putAt cs off (ds.map V.ng)) :: τ) := by
  show (if (V.agg ds).cells.length = sz ∧ off + sz ≤ cs.length ∧ okCells (V.agg ds).cells = true then _ else _) = _
  rw [if_pos ⟨h1, h2, h3⟩]; rfl
theorem sto1_agg {sz off : Nat} {cs ds : List V} {t : V} {O : O} {τ : Objs} (h1 : ds.length = sz) (h2 : off + sz ≤ cs.length) (h3 : okCells ds = true) :
    stV (O :: .cells cs :: τ) sz (.ptr 1 off) (.agg ds) t = some (.undef, O :: .cells (putAt cs off (ds.map V.ng)) :: τ) := by
  show (if (V.agg ds).cells.length = sz ∧ off + sz ≤ cs.length ∧ okCells (V.agg ds).cells = true then _ else _) = _
  rw [if_pos ⟨h1, h2, h3⟩]; rfl
theorem sto1_int {off : Nat} {cs : List V} {k : IntKind} {x : Int} {O : O} {τ : Objs} (h2 : off + 1 ≤ cs.length) :
    stV (O :: .cells cs :: τ) 1 (.ptr 1 off) (.int k x) (.int k x) = some (.undef, O :: .cells (cs.set off (.int k x)) :: τ) := by
  show (if (V.int k x).cells.length = 1 ∧ off + 1 ≤ cs.length ∧ okCells (V.int k x).cells = true then _ else _) = _
  rw [if_pos ⟨rfl, h2, rfl⟩]; rfl
theorem sto1_str {off : Nat} {cs : List V} {x : List UInt8} {O : O} {τ : Objs} (h2 : off + 1 ≤ cs.length) :
    stV (O :: .cells cs :: τ) 1 (.ptr 1 off) (.str x) (.str x) = some (.undef, O :: .cells (cs.set off (.str x)) :: τ) := by
  show (if (V.str x).cells.length = 1 ∧ off + 1 ≤ cs.length ∧ okCells (V.str x).cells = true then _ else _) = _
  rw [if_pos ⟨rfl, h2, rfl⟩]; rfl
theorem sto1_bool {off : Nat} {cs : List V} {x : Bool} {O : O} {τ : Objs} (h2 : off + 1 ≤ cs.length) :
    stV (O :: .cells cs :: τ) 1 (.ptr 1 off) (.bool x) (.bool x) = some (.undef, O :: .cells (cs.set off (.bool x)) :: τ) := by
  show (if (V.bool x).cells.length = 1 ∧ off + 1 ≤ cs.length ∧ okCells (V.bool x).cells = true then _ else _) = _
  rw [if_pos ⟨rfl, h2, rfl⟩]; rfl
theorem sto0_int {off : Nat} {cs : List V} {k : IntKind} {x : Int} {τ : Objs} (h2 : off + 1 ≤ cs.length) :
    stV (.cells cs :: τ) 1 (.ptr 0 off) (.int k x) (.int k x) = some (.undef, .cells (cs.set off (.int k x)) :: τ) := by
  show (if (V.int k x).cells.length = 1 ∧ off + 1 ≤ cs.length ∧ okCells (V.int k x).cells = true then _ else _) = _
  rw [if_pos ⟨rfl, h2, rfl⟩]; rfl
theorem sto0_str {off : Nat} {cs : List V} {x : List UInt8} {τ : Objs} (h2 : off + 1 ≤ cs.length) :
    stV (.cells cs :: τ) 1 (.ptr 0 off) (.str x) (.str x) = some (.undef, .cells (cs.set off (.str x)) :: τ) := by
  show (if (V.str x).cells.length = 1 ∧ off + 1 ≤ cs.length ∧ okCells (V.str x).cells = true then _ else _) = _
  rw [if_pos ⟨rfl, h2, rfl⟩]; rfl
theorem resC_eq {σ : Objs} {ag : Bool} {sz o off : Nat} : resC σ ag sz (.ptr o off) = (Objs.get σ o).bind fun cs => part ag sz cs off := rfl
theorem wf_two {cs ds : List V} : Wf [.cells cs, .cells ds] = (V.rbs 2 cs = true ∧ V.rbs 2 ds = true) := by simp [Wf, O.rb]
theorem cut_two {cs ds : List V} (h : V.rbs 2 cs = true ∧ V.rbs 2 ds = true) : cuO 2 [.cells cs, .cells ds] = some [.cells cs, .cells ds] := cut_wf (σ := [.cells cs, .cells ds]) (by rw [wf_two]; exact h)
attribute [go_sem] sto0_agg sto1_agg sto1_int sto1_str sto1_bool sto0_int sto0_str resC_eq wf_two cut_two
end Go.Ev
namespace Go.Proofs.YtkgkmlhljeidhaaGreatDoor
open Go.Ev
set_option maxRecDepth 100000
structure Tok where
  k : Int
  f : Int
  t : Int
  s : List UInt8
  n : List UInt8
  w : Bool
def Tok.v (x : Tok) : V := .agg [.int .i64 x.k, .int .i64 x.f, .int .i64 x.t, .str x.s, .str x.n, .bool x.w]
theorem expS_pos (l : List Int) (a : Int) (w : Bool) (h : a ≤ l.length) : a ≤ (expS l a w).1 ∧ (expS l a w).1 ≤ l.length := by
  unfold expS
  split
  · split
    · rename_i h1 h2
      have := dgB_lt h2
      have h3 := sg_pos l (a + 1)
      have := dE_pos l (sg l (a + 1)) (by omega)
      show a ≤ dE l (sg l (a + 1)) ∧ dE l (sg l (a + 1)) ≤ _
      omega
    · exact ⟨Int.le_refl _, h⟩
  · exact ⟨Int.le_refl _, h⟩
theorem fracS_pos (l : List Int) (a : Int) (w : Bool) (h : a ≤ l.length) : a ≤ (fracS l a w).1 ∧ (fracS l a w).1 ≤ l.length := by
  unfold fracS
  split
  · rename_i h1
    have h2 := dgB_lt (Bool.and_eq_true _ _ ▸ h1).2
    have h3 := dE_pos l (a + 1) (by omega)
    have h4 := expS_pos l (dE l (a + 1)) false h3.2
    omega
  · exact expS_pos l a w h
theorem digS_pos (l : List Int) (a : Int) (h : a ≤ l.length) : a ≤ (digS l a).1 ∧ (digS l a).1 ≤ l.length := by
  have h1 := sg_pos l a
  have h2 := dE_pos l (sg l a) (by omega)
  have h3 := fracS_pos l (dE l (sg l a)) true h2.2
  unfold digS
  omega
def cutL (l : List Int) (a b : Int) : List Int := (l.drop a.toNat).take (b.toNat - a.toNat)
theorem Chs.cut {l : List Int} (h : Chs l) (a b : Int) : Chs (cutL l a b) :=
  ⟨fun c hc => h.1 c (List.drop_subset _ _ (List.take_subset _ _ hc)), by
    have := h.2
    simp only [cutL, List.length_take, List.length_drop]; omega⟩
def numS (l : List Int) (a : Int) : Tok :=
  if nmB l (digS l a).1 then ⟨12, a, (namesS l (digS l a).1).2, (namesS l (digS l a).1).1, textS (cutL l a (digS l a).1), (digS l a).2⟩
  else if isB l (digS l a).1 37 then ⟨11, a, (digS l a).1 + 1, [], textS (cutL l a (digS l a).1), (digS l a).2⟩
  else ⟨10, a, (digS l a).1, [], textS (cutL l a (digS l a).1), (digS l a).2⟩
section
variable {l : List Int} (hl : Chs l)
include hl
theorem d_numeric (a : Int) (ha : 0 ≤ a ∧ a ≤ l.length) (σ : Objs) (hσ : Wf σ) : E cx 78 [.sl (ints l) .no, .int .i64 a] σ = some ((numS l a).v, σ) := by
  refine E_any cx_cl ?_ (by rw [rbs_cons, ints_rb]; rfl) rfl σ hσ
  have hl2 := hl.2
  have hp := digS_pos l a ha.2
  have h1 := fun σ hσ => d_rdigits hl a ha σ hσ
  have h2 := fun σ hσ => d_text (cutL l a (digS l a).1) (hl.cut _ _) .no σ hσ
  have h3 := fun σ hσ => d_rName hl (i := (digS l a).1) (by omega) σ hσ
  have h4 := fun σ hσ => d_names l hl (digS l a).1 (by omega) σ hσ
  have h5 := fun σ hσ => d_is hl (i := (digS l a).1) (by omega) σ hσ 37
  have h6 : evCut 1 (.sl (ints l) .no) (some (.int .i64 a)) (some (.int .i64 (digS l a).1)) none = some (.sl (ints (cutL l a (digS l a).1)) .no) := cut_ints (by omega)
  rw [e_Z25]
  unfold numS
  cases c1 : nmB l (digS l a).1 with
  | true => simp +contextual -implicitDefEqProofs (disch := first | assumption | omega | (simp -implicitDefEqProofs only [go_sem]; try omega)) only [↓reduceIte, go_sem, iP, iN, w64, w8, w32, s_Z25, j_Z25_0, h1, h2, h3, h4, h5, h6, c1, Tok.v]
  | false =>
    cases c2 : isB l (digS l a).1 37 with
    | true => simp +contextual -implicitDefEqProofs (disch := first | assumption | omega | (simp -implicitDefEqProofs only [go_sem]; try omega)) only [↓reduceIte, go_sem, iP, iN, w64, w8, w32, s_Z25, j_Z25_0, h1, h2, h3, h4, h5, h6, c1, c2, Tok.v]
    | false => simp +contextual -implicitDefEqProofs (disch := first | assumption | omega | (simp -implicitDefEqProofs only [go_sem]; try omega)) only [↓reduceIte, go_sem, iP, iN, w64, w8, w32, s_Z25, j_Z25_0, h1, h2, h3, h4, h5, h6, c1, c2, Tok.v]
end
end Go.Proofs.YtkgkmlhljeidhaaGreatDoor
set_option linter.unusedSimpArgs false
set_option linter.unusedVariables false
set_option linter.unusedSectionVars false
namespace Go.Proofs.YtkgkmlhljeidhaaGreatDoor
open Go.Ev
set_option maxRecDepth 100000
def rstE (l : List Int) : Nat → Int → Int
  | 0, a => a
  | f + 1, a => if decide (a < l.length) && !decide (l.getD a.toNat 0 = 41) then rstE l f (if escB l a then (valS l a).2 else a + 1) else a
def rstF (l : List Int) (e : Int) : Int := if e < l.length then e + 1 else e
def restS (l : List Int) (fr a : Int) : Tok := ⟨8, fr, rstF l (rstE l (l.length + 1) a), [], [], false⟩
theorem rstE_pos (l : List Int) : ∀ (f : Nat) (a : Int), a ≤ l.length → a ≤ rstE l f a ∧ rstE l f a ≤ l.length
  | 0, a, h => ⟨Int.le_refl _, h⟩
  | f + 1, a, h => by
    unfold rstE
    split
    · rename_i hc
      have h1 := of_decide_eq_true (Bool.and_eq_true _ _ ▸ hc).1
      cases he : escB l a with
      | true =>
        have h2 := valS_pos l a h1
        have := rstE_pos l f (valS l a).2 h2.2
        simp only [if_true]
        omega
      | false =>
        have := rstE_pos l f (a + 1) (by omega)
        simp only [Bool.false_eq_true, if_false]
        omega
    · exact ⟨Int.le_refl _, h⟩
section
variable {l : List Int} (hl : Chs l)
include hl
theorem d_rst0 (fr : Int) : ∀ (f : Nat) (a : Int), (l.length : Int) - a < f → 0 ≤ a ∧ a ≤ l.length →
    l_Z27_0 (Mi cx) 0 1 [.sl (ints l) .no, .int .i64 fr, .int .i64 a, .ptr 0 0] [.cells [.int .i64 0, .int .i64 0, .int .i64 0, .str [], .str [], .bool false]] = some ((Tok.mk 8 fr (rstF l (rstE l f a)) [] [] false).v, [])
  | 0, a, hf, ha => by omega
  | f + 1, a, hf, ha => by
    have hl2 := hl.2
    have h1 := fun σ hσ => d_Escape hl (i := a) (by omega) σ hσ
    rw [u_Z27_0]
    by_cases hlt : a < l.length
    · by_cases hc : l.getD a.toNat 0 = 41
      · have hgt : ¬ (l.length : Int) < a + 1 := by omega
        simp +contextual -implicitDefEqProofs (disch := first | assumption | omega | (simp -implicitDefEqProofs only [go_sem]; try omega)) only [↓reduceIte, go_sem, iP, iN, w64, w8, w32, b_Z27_0, j_Z27_1, j_Z27_2, hlt, hc, hgt, rstE, rstF, Tok.v]
      · cases he : escB l a with
        | true =>
          have h2 := fun σ hσ => d_Value l hl a (by omega) σ hσ
          have hv := valS_pos l a hlt
          have ih := d_rst0 fr f (valS l a).2 (by omega) (by omega)
          simp +contextual -implicitDefEqProofs (disch := first | assumption | omega | (simp -implicitDefEqProofs only [go_sem]; try omega)) only [↓reduceIte, go_sem, iP, iN, w64, w8, w32, b_Z27_0, j_Z27_0, h1, h2, he, hlt, hc, rstE, ih]
        | false =>
          have ih := d_rst0 fr f (a + 1) (by omega) (by omega)
          simp +contextual -implicitDefEqProofs (disch := first | assumption | omega | (simp -implicitDefEqProofs only [go_sem]; try omega)) only [↓reduceIte, go_sem, iP, iN, w64, w8, w32, b_Z27_0, j_Z27_0, h1, he, hlt, hc, rstE, ih]
    · have hgt : ¬ (l.length : Int) < a := by omega
      simp +contextual -implicitDefEqProofs (disch := first | assumption | omega | (simp -implicitDefEqProofs only [go_sem]; try omega)) only [↓reduceIte, go_sem, iP, iN, w64, w8, w32, b_Z27_0, j_Z27_1, j_Z27_2, hlt, hgt, rstE, rstF, Tok.v]
theorem d_rest (fr a : Int) (ha : 0 ≤ a ∧ a ≤ l.length) (σ : Objs) (hσ : Wf σ) : E cx 114 [.sl (ints l) .no, .int .i64 fr, .int .i64 a] σ = some ((restS l fr a).v, σ) := by
  refine E_any cx_cl ?_ (by rw [rbs_cons, ints_rb]; rfl) rfl σ hσ
  have hl2 := hl.2
  have h := d_rst0 hl fr (l.length + 1) a (by omega) (by omega)
  rw [e_Z27]
  simp +contextual -implicitDefEqProofs (disch := first | assumption | omega | (simp -implicitDefEqProofs only [go_sem]; try omega)) only [↓reduceIte, go_sem, iP, iN, w64, w8, w32, s_Z27, h, restS]
end
end Go.Proofs.YtkgkmlhljeidhaaGreatDoor
set_option linter.unusedSimpArgs false
set_option linter.unusedVariables false
set_option linter.unusedSectionVars false
namespace Go.Proofs.YtkgkmlhljeidhaaGreatDoor
open Go.Ev
set_option maxRecDepth 100000
def spE (l : List Int) : Nat → Int → Int
  | 0, a => a
  | f + 1, a => if spB l a then spE l f (a + 1) else a
theorem spE_pos (l : List Int) : ∀ (f : Nat) (a : Int), a ≤ l.length → a ≤ spE l f a ∧ spE l f a ≤ l.length
  | 0, a, h => ⟨Int.le_refl _, h⟩
  | f + 1, a, h => by
    unfold spE
    split
    · rename_i hc
      have h1 := spB_lt hc
      have := spE_pos l f (a + 1) (by omega)
      omega
    · exact ⟨Int.le_refl _, h⟩
def urlC (l : List Int) (fr : Int) (rec : Int → List Int → Tok) (i k : Int) (out : List Int) : Tok :=
  if (l.length : Int) ≤ k then ⟨7, fr, l.length, textS out, [], false⟩
  else if l.getD k.toNat 0 = 41 then ⟨7, fr, k + 1, textS out, [], false⟩
  else if i < k then restS l fr k
  else if l.getD k.toNat 0 = 34 then restS l fr k
  else if l.getD k.toNat 0 = 39 then restS l fr k
  else if l.getD k.toNat 0 = 40 then restS l fr k
  else if hidB (l.getD k.toNat 0) = true then restS l fr k
  else if l.getD k.toNat 0 = 92 then (if escB l k = true then rec (valS l k).2 (out ++ [(valS l k).1]) else restS l fr k)
  else rec (k + 1) (out ++ [l.getD k.toNat 0])
def urlF (l : List Int) (fr : Int) : Nat → Int → List Int → Tok
  | 0, i, out => restS l fr i
  | f + 1, i, out => urlC l fr (urlF l fr f) i (spE l (l.length + 1) i) out
def urlS (l : List Int) (fr a : Int) : Tok := urlF l fr (l.length + 1) a []
section
variable {l : List Int} (hl : Chs l)
include hl
theorem d_url1 (fr : Int) (r1 : Rk) (rec : Int → List Int → Tok) (i : Int) (out : List Int) (cap : Cap) (hc : cap = .fx ∨ cap = .gr 1) (ho : ∀ c ∈ out, 0 ≤ c ∧ c ≤ 1114111) (hn : (out.length : Int) ≤ i) (hi : 0 ≤ i)
    (IH : ∀ (i' : Int) (out' : List Int) (cap' : Cap), i < i' ∧ i' ≤ l.length → (cap' = .fx ∨ cap' = .gr 1) → (∀ c ∈ out', 0 ≤ c ∧ c ≤ 1114111) → (out'.length : Int) ≤ i' →
      r1 [.sl (ints l) .no, .int .i64 fr, .ptr 0 0, .sl (ints out') cap', .int .i64 i'] [.cells [.int .i64 0, .int .i64 0, .int .i64 0, .str [], .str [], .bool false]] = some ((rec i' out').v, [])) :
    ∀ (g : Nat) (k : Int), (l.length : Int) - k < g → i ≤ k ∧ k ≤ l.length →
    l_Z2b_1 (Mi cx) 0 1 r1 1 [.sl (ints l) .no, .int .i64 fr, .ptr 0 0, .sl (ints out) cap, .int .i64 i, .int .i64 k] [.cells [.int .i64 0, .int .i64 0, .int .i64 0, .str [], .str [], .bool false]] = some ((urlC l fr rec i (spE l g k) out).v, [])
  | 0, k, hf, ha => by omega
  | g + 1, k, hf, ha => by
    have hl2 := hl.2
    have hm : rowMax = 140737488355328 := rfl
    have h1 := fun σ hσ => d_space hl (i := k) (by omega) σ hσ
    rw [u_Z2b_1]
    cases hs : spB l k with
    | true =>
      have hlt := spB_lt hs
      have ih := d_url1 fr r1 rec i out cap hc ho hn hi IH g (k + 1) (by omega) (by omega)
      simp +contextual -implicitDefEqProofs (disch := first | assumption | omega | (simp -implicitDefEqProofs only [go_sem]; try omega)) only [↓reduceIte, go_sem, iP, iN, w64, w8, w32, b_Z2b_1, h1, hs, spE, ih]
    | false =>
      have h2 := fun σ hσ => d_text out ⟨ho, by omega⟩ .no σ hσ
      have h3 := fun σ hσ => d_rest hl fr k (by omega) σ hσ
      have h4 := fun σ hσ => d_hidden (l.getD k.toNat 0) σ hσ
      have h5 := fun σ hσ => d_Escape hl (i := k) (by omega) σ hσ
      have hsp : spE l (g + 1) k = k := by unfold spE; rw [hs]; rfl
      rw [hsp]
      by_cases hlt : (l.length : Int) ≤ k
      · simp +contextual -implicitDefEqProofs (disch := first | assumption | omega | (simp -implicitDefEqProofs only [go_sem]; try omega)) only [↓reduceIte, go_sem, iP, iN, w64, w8, w32, b_Z2b_1, j_Z2b_1, h1, hs, h2, hlt, urlC, Tok.v]
      · by_cases c1 : l.getD k.toNat 0 = 41
        · simp +contextual -implicitDefEqProofs (disch := first | assumption | omega | (simp -implicitDefEqProofs only [go_sem]; try omega)) only [↓reduceIte, go_sem, iP, iN, w64, w8, w32, b_Z2b_1, j_Z2b_1, h1, hs, h2, hlt, c1, urlC, Tok.v]
        · by_cases c2 : i < k
          · simp +contextual -implicitDefEqProofs (disch := first | assumption | omega | (simp -implicitDefEqProofs only [go_sem]; try omega)) only [↓reduceIte, go_sem, iP, iN, w64, w8, w32, b_Z2b_1, j_Z2b_1, h1, hs, h3, hlt, c1, c2, urlC, Tok.v]
          · by_cases c3 : l.getD k.toNat 0 = 34
            · simp +contextual -implicitDefEqProofs (disch := first | assumption | omega | (simp -implicitDefEqProofs only [go_sem]; try omega)) only [↓reduceIte, go_sem, iP, iN, w64, w8, w32, b_Z2b_1, j_Z2b_1, h1, hs, h3, hlt, c2, c3, urlC, Tok.v]
            · by_cases c4 : l.getD k.toNat 0 = 39
              · simp +contextual -implicitDefEqProofs (disch := first | assumption | omega | (simp -implicitDefEqProofs only [go_sem]; try omega)) only [↓reduceIte, go_sem, iP, iN, w64, w8, w32, b_Z2b_1, j_Z2b_1, h1, hs, h3, hlt, c2, c4, urlC, Tok.v]
              · by_cases c5 : l.getD k.toNat 0 = 40
                · simp +contextual -implicitDefEqProofs (disch := first | assumption | omega | (simp -implicitDefEqProofs only [go_sem]; try omega)) only [↓reduceIte, go_sem, iP, iN, w64, w8, w32, b_Z2b_1, j_Z2b_1, h1, hs, h3, hlt, c2, c5, urlC, Tok.v]
                · cases c6 : hidB (l.getD k.toNat 0) with
                  | true => simp +contextual -implicitDefEqProofs (disch := first | assumption | omega | (simp -implicitDefEqProofs only [go_sem]; try omega)) only [↓reduceIte, go_sem, iP, iN, w64, w8, w32, b_Z2b_1, j_Z2b_1, h1, hs, h3, h4, hlt, c1, c2, c3, c4, c5, c6, urlC, Tok.v]
                  | false =>
                    by_cases c7 : l.getD k.toNat 0 = 92
                    · rw [c7] at h4 c6
                      cases c8 : escB l k with
                      | true =>
                        have h6 := fun σ hσ => d_Value l hl k (by omega) σ hσ
                        have hv := valS_pos l k (by omega)
                        have ih := IH (valS l k).2 (out ++ [(valS l k).1]) (.gr 1) (by omega) (.inr rfl) (chs_snoc ho (valS_val l hl k)) (by simp; omega)
                        simp +contextual -implicitDefEqProofs (disch := first | assumption | omega | (simp -implicitDefEqProofs only [go_sem]; try omega)) only [↓reduceIte, go_sem, iP, iN, w64, w8, w32, b_Z2b_1, j_Z2b_0, h1, hs, h4, h5, h6, hlt, c2, c6, c7, c8, urlC, ih]
                      | false => simp +contextual -implicitDefEqProofs (disch := first | assumption | omega | (simp -implicitDefEqProofs only [go_sem]; try omega)) only [↓reduceIte, go_sem, iP, iN, w64, w8, w32, b_Z2b_1, j_Z2b_1, h1, hs, h3, h4, h5, hlt, c2, c6, c7, c8, urlC, Tok.v]
                    · have hg := hl.get k.toNat
                      have ih := IH (k + 1) (out ++ [l.getD k.toNat 0]) (.gr 1) (by omega) (.inr rfl) (chs_snoc ho hg) (by simp; omega)
                      simp +contextual -implicitDefEqProofs (disch := first | assumption | omega | (simp -implicitDefEqProofs only [go_sem]; try omega)) only [↓reduceIte, go_sem, iP, iN, w64, w8, w32, b_Z2b_1, j_Z2b_0, h1, hs, h4, h5, hlt, c1, c2, c3, c4, c5, c6, c7, urlC, ih]
theorem d_url0 (fr : Int) : ∀ (f : Nat) (i : Int) (out : List Int) (cap : Cap), (l.length : Int) - i < f → 0 ≤ i ∧ i ≤ l.length → (cap = .fx ∨ cap = .gr 1) → (∀ c ∈ out, 0 ≤ c ∧ c ≤ 1114111) → (out.length : Int) ≤ i →
    l_Z2b_0 (Mi cx) 0 1 [.sl (ints l) .no, .int .i64 fr, .ptr 0 0, .sl (ints out) cap, .int .i64 i] [.cells [.int .i64 0, .int .i64 0, .int .i64 0, .str [], .str [], .bool false]] = some ((urlF l fr f i out).v, [])
  | 0, i, out, cap, hf, ha, hc, ho, hn => by omega
  | f + 1, i, out, cap, hf, ha, hc, ho, hn => by
    have hl2 := hl.2
    have h := d_url1 hl fr (l_Z2b_0 (Mi cx) 0 1) (urlF l fr f) i out cap hc ho hn (by omega)
      (fun i' out' cap' hi' hc' ho' hn' => d_url0 fr f i' out' cap' (by omega) (by omega) hc' ho' hn') (l.length + 1) i (by omega) (by omega)
    rw [u_Z2b_0]
    simp +contextual -implicitDefEqProofs (disch := first | assumption | omega | (simp -implicitDefEqProofs only [go_sem]; try omega)) only [↓reduceIte, go_sem, iP, iN, w64, w8, w32, b_Z2b_0, h, urlF]
theorem d_url (fr a : Int) (ha : 0 ≤ a ∧ a ≤ l.length) (σ : Objs) (hσ : Wf σ) : E cx 100 [.sl (ints l) .no, .int .i64 fr, .int .i64 a] σ = some ((urlS l fr a).v, σ) := by
  refine E_any cx_cl ?_ (by rw [rbs_cons, ints_rb]; rfl) rfl σ hσ
  have hl2 := hl.2
  have h := d_url0 hl fr (l.length + 1) a [] .fx (by omega) ha (.inl rfl) (by simp) (by simp; omega)
  rw [ints_nil] at h
  rw [e_Z2b]
  simp +contextual -implicitDefEqProofs (disch := first | assumption | omega | (simp -implicitDefEqProofs only [go_sem]; try omega)) only [↓reduceIte, go_sem, iP, iN, w64, w8, w32, s_Z2b, h, urlS]
end
end Go.Proofs.YtkgkmlhljeidhaaGreatDoor
set_option linter.unusedSimpArgs false
set_option linter.unusedVariables false
set_option linter.unusedSectionVars false
namespace Go.Proofs.YtkgkmlhljeidhaaGreatDoor
open Go.Ev
set_option maxRecDepth 100000
def lowB (b : UInt8) : UInt8 := putB (smallZ b.toNat)
def lowS (s : List UInt8) : List UInt8 := s.map lowB
theorem smallZ_le {c : Int} (h : 0 ≤ c ∧ c ≤ 255) : 0 ≤ smallZ c ∧ smallZ c ≤ 255 := by
  unfold smallZ
  split <;> omega
theorem app_b1 {l : List UInt8} {x : Int} {c c' : Cap} {σ : Objs} (hc : c = .fx ∨ c = .gr 1) (hx : 0 ≤ x ∧ x ≤ 255) (hl : l.length + 1 ≤ rowMax) : appV false false 1 1 σ (.sl (ofBytes l) c) (.sl [.int .u8 x] c') = some (.sl (ofBytes (l ++ [putB x])) (.gr 1)) := by
  have h := app_bytes (l := l) (m := [putB x]) (c := c) (c' := c') (σ := σ) hc (by simp) (by simpa using hl)
  have e : ofBytes [putB x] = [.int .u8 x] := by
    show [V.int .u8 (putB x).toNat] = _
    rw [putB_nat hx]
  rw [e] at h
  exact h
theorem d_lowloop (s : List UInt8) (hs : s.length ≤ 100000000000) : ∀ (r p : List UInt8) (cap : Cap) (i : Int), s = p ++ r → i = p.length → cap = .fx ∨ cap = .gr 1 →
    l_Z1l_0 (Mi cx) 0 0 [.str s, .sl (ofBytes (lowS p)) cap, .int .i64 i] [] = some (.str (lowS s), [])
  | [], p, cap, i, hp, hi, hc => by
    have hlen : s.length = p.length := by rw [hp]; simp
    have hsp : s = p := by rw [hp]; simp
    rw [u_Z1l_0]
    simp +contextual -implicitDefEqProofs (disch := first | assumption | omega | (simp -implicitDefEqProofs only [go_sem]; try omega)) only [↓reduceIte, go_sem, iP, iN, w64, w8, w32, b_Z1l_0, hsp]
  | b :: r, p, cap, i, hp, hi, hc => by
    have hlen : s.length = p.length + r.length + 1 := by rw [hp]; simp; omega
    have hm : rowMax = 140737488355328 := rfl
    have hg : s.getD i.toNat 0 = b := by rw [hp, hi]; simp
    have hb := UInt8.toNat_lt b
    have hz := smallZ_le (c := (b.toNat : Int)) (by omega)
    have h1 := fun σ hσ => d_Small (b.toNat : Int) (by omega) σ hσ
    have hll : (lowS p).length = p.length := by simp [lowS]
    have h2 : appV false false 1 1 [] (.sl (ofBytes (lowS p)) cap) (.sl [.int .u8 (smallZ b.toNat)] .no) = some (.sl (ofBytes (lowS (p ++ [b]))) (.gr 1)) := by
      rw [app_b1 hc hz (by omega)]
      simp [lowS, lowB]
    have ih := d_lowloop s hs r (p ++ [b]) (.gr 1) (i + 1) (by rw [hp]; simp) (by simp; omega) (.inr rfl)
    rw [u_Z1l_0]
    simp +contextual -implicitDefEqProofs (disch := first | assumption | omega | (simp -implicitDefEqProofs only [go_sem]; try omega)) only [↓reduceIte, go_sem, iP, iN, w64, w8, w32, b_Z1l_0, hg, h1, h2, ih]
theorem d_Lower (s : List UInt8) (hs : s.length ≤ 100000000000) (σ : Objs) (hσ : Wf σ) : E cx 60 [.str s] σ = some (.str (lowS s), σ) := by
  refine E_any cx_cl ?_ rfl rfl σ hσ
  have h := d_lowloop s hs s [] .fx 0 rfl rfl (.inl rfl)
  have e : ofBytes (lowS []) = [] := rfl
  rw [e] at h
  rw [e_Z1l]
  simp +contextual -implicitDefEqProofs (disch := first | assumption | omega | (simp -implicitDefEqProofs only [go_sem]; try omega)) only [↓reduceIte, go_sem, iP, iN, w64, w8, w32, s_Z1l, h]
end Go.Proofs.YtkgkmlhljeidhaaGreatDoor
set_option linter.unusedSimpArgs false
set_option linter.unusedVariables false
set_option linter.unusedSectionVars false
namespace Go.Ev
theorem lockS_e {ag : Bool} {sz off : Nat} {cs : List V} {σ : Objs} : lockS [rdLoad ag sz (.eptr cs off)] σ = some σ := rfl
theorem openS_e {ag : Bool} {sz off : Nat} {cs : List V} {σ σ1 : Objs} : openS [rdLoad ag sz (.eptr cs off)] σ σ1 = some σ1 := rfl
attribute [go_sem] lockS_e openS_e
end Go.Ev
namespace Go.Proofs.YtkgkmlhljeidhaaGreatDoor
open Go.Ev
set_option maxRecDepth 100000
def quoF (l : List Int) (fr m : Int) : Nat → Int → List Int → Tok
  | 0, i, out => ⟨0, 0, 0, [], [], false⟩
  | f + 1, i, out =>
    if (l.length : Int) ≤ i then ⟨5, fr, i, textS out, [], false⟩
    else if l.getD i.toNat 0 = m then ⟨5, fr, i + 1, textS out, [], false⟩
    else if l.getD i.toNat 0 = 10 then ⟨6, fr, i, [], [], false⟩
    else if l.getD i.toNat 0 ≠ 92 then quoF l fr m f (i + 1) (out ++ [l.getD i.toNat 0])
    else if i + 1 = l.length then quoF l fr m f (i + 1) out
    else if l.getD (i + 1).toNat 0 = 10 then quoF l fr m f (i + 2) out
    else quoF l fr m f (valS l i).2 (out ++ [(valS l i).1])
def quoS (l : List Int) (a : Int) : Tok := quoF l a (l.getD a.toNat 0) (l.length + 1) (a + 1) []
section
variable {l : List Int} (hl : Chs l)
include hl
theorem d_quo0 (fr m : Int) : ∀ (f : Nat) (i : Int) (out : List Int) (cap : Cap), (l.length : Int) - i < f → 0 ≤ i ∧ i ≤ l.length → (cap = .fx ∨ cap = .gr 1) → (∀ c ∈ out, 0 ≤ c ∧ c ≤ 1114111) → (out.length : Int) ≤ i →
    l_Z26_0 (Mi cx) 0 2 [.sl (ints l) .no, .int .i64 fr, .ptr 0 0, .ptr 1 0, .int .i64 m, .sl (ints out) cap, .int .i64 i] [.cells [.int .i64 0, .int .i64 0, .int .i64 0, .str [], .str [], .bool false], .cells [.int .i64 5, .int .i64 fr, .int .i64 0, .str [], .str [], .bool false]] = some ((quoF l fr m f i out).v, [])
  | 0, i, out, cap, hf, ha, hc, ho, hn => by omega
  | f + 1, i, out, cap, hf, ha, hc, ho, hn => by
    have hl2 := hl.2
    have hm : rowMax = 140737488355328 := rfl
    have h2 := fun σ hσ => d_text out ⟨ho, by omega⟩ .no σ hσ
    rw [u_Z26_0]
    by_cases c0 : (l.length : Int) ≤ i
    · simp +contextual -implicitDefEqProofs (disch := first | assumption | omega | (simp -implicitDefEqProofs only [go_sem]; try omega)) only [↓reduceIte, go_sem, iP, iN, w64, w8, w32, b_Z26_0, j_Z26_1, h2, c0, quoF, Tok.v]
    · by_cases c1 : l.getD i.toNat 0 = m
      · simp +contextual -implicitDefEqProofs (disch := first | assumption | omega | (simp -implicitDefEqProofs only [go_sem]; try omega)) only [↓reduceIte, go_sem, iP, iN, w64, w8, w32, b_Z26_0, j_Z26_1, h2, c0, c1, quoF, Tok.v]
      · by_cases c2 : l.getD i.toNat 0 = 10
        · simp +contextual -implicitDefEqProofs (disch := first | assumption | omega | (simp -implicitDefEqProofs only [go_sem]; try omega)) only [↓reduceIte, go_sem, iP, iN, w64, w8, w32, b_Z26_0, j_Z26_1, h2, c0, c1, c2, quoF, Tok.v]
        · by_cases c3 : l.getD i.toNat 0 = 92
          · by_cases c4 : i + 1 = l.length
            · have ih := d_quo0 fr m f (i + 1) out cap (by omega) (by omega) hc ho (by omega)
              rw [c4] at ih
              simp +contextual -implicitDefEqProofs (disch := first | assumption | omega | (simp -implicitDefEqProofs only [go_sem]; try omega)) only [↓reduceIte, go_sem, iP, iN, w64, w8, w32, b_Z26_0, j_Z26_0, c0, c1, c2, c3, c4, quoF, ih]
            · by_cases c5 : l.getD (i + 1).toNat 0 = 10
              · have ih := d_quo0 fr m f (i + 2) out cap (by omega) (by omega) hc ho (by omega)
                simp +contextual -implicitDefEqProofs (disch := first | assumption | omega | (simp -implicitDefEqProofs only [go_sem]; try omega)) only [↓reduceIte, go_sem, iP, iN, w64, w8, w32, b_Z26_0, j_Z26_0, c0, c1, c2, c3, c4, c5, quoF, ih]
              · have h6 := fun σ hσ => d_Value l hl i (by omega) σ hσ
                have hv := valS_pos l i (by omega)
                have ih := d_quo0 fr m f (valS l i).2 (out ++ [(valS l i).1]) (.gr 1) (by omega) (by omega) (.inr rfl) (chs_snoc ho (valS_val l hl i)) (by simp; omega)
                simp +contextual -implicitDefEqProofs (disch := first | assumption | omega | (simp -implicitDefEqProofs only [go_sem]; try omega)) only [↓reduceIte, go_sem, iP, iN, w64, w8, w32, b_Z26_0, j_Z26_0, c0, c1, c2, c3, c4, c5, h6, quoF, ih]
          · have hg := hl.get i.toNat
            have ih := d_quo0 fr m f (i + 1) (out ++ [l.getD i.toNat 0]) (.gr 1) (by omega) (by omega) (.inr rfl) (chs_snoc ho hg) (by simp; omega)
            simp +contextual -implicitDefEqProofs (disch := first | assumption | omega | (simp -implicitDefEqProofs only [go_sem]; try omega)) only [↓reduceIte, go_sem, iP, iN, w64, w8, w32, b_Z26_0, j_Z26_0, c0, c1, c2, c3, quoF, ih]
theorem d_quoted (a : Int) (ha : 0 ≤ a ∧ a < l.length) (σ : Objs) (hσ : Wf σ) : E cx 76 [.sl (ints l) .no, .int .i64 a] σ = some ((quoS l a).v, σ) := by
  refine E_any cx_cl ?_ (by rw [rbs_cons, ints_rb]; rfl) rfl σ hσ
  have hl2 := hl.2
  have h := d_quo0 hl a (l.getD a.toNat 0) (l.length + 1) (a + 1) [] .fx (by omega) (by omega) (.inl rfl) (by simp) (by simp; omega)
  rw [ints_nil] at h
  rw [e_Z26]
  simp +contextual -implicitDefEqProofs (disch := first | assumption | omega | (simp -implicitDefEqProofs only [go_sem]; try omega)) only [↓reduceIte, go_sem, iP, iN, w64, w8, w32, s_Z26, h, quoS]
end
end Go.Proofs.YtkgkmlhljeidhaaGreatDoor
set_option linter.unusedSimpArgs false
set_option linter.unusedVariables false
set_option linter.unusedSectionVars false
namespace Go.Proofs.YtkgkmlhljeidhaaGreatDoor
open Go.Ev
set_option maxRecDepth 100000
theorem textR_len : ∀ (l : List Int), (textR l).length ≤ 4 * l.length
  | [] => Nat.le_refl _
  | c :: l => by
    have h1 := (putS_len (if rightB c then c else 65533)).2
    have h2 := textR_len l
    rw [textR_cons, List.length_append, List.length_cons]
    omega
theorem textS_len (l : List Int) : (textS l).length ≤ 4 * l.length := by
  have := textR_len (l.map nz)
  rw [List.length_map] at this
  exact this
theorem namesF_pos (l : List Int) : ∀ (f : Nat) (a : Int) (out : List Int), a ≤ l.length → (out.length : Int) ≤ a →
    a ≤ (namesF l f a out).2 ∧ (namesF l f a out).2 ≤ l.length ∧ ((namesF l f a out).1.length : Int) ≤ (namesF l f a out).2
  | 0, a, out, h, ho => by unfold namesF; exact ⟨Int.le_refl _, h, ho⟩
  | f + 1, a, out, h, ho => by
    unfold namesF
    split
    · rename_i hc
      have h1 := inB_lt hc
      have := namesF_pos l f (a + 1) (out ++ [l.getD a.toNat 0]) (by omega) (by simp; omega)
      omega
    · split
      · rename_i hc
        have h1 := valS_pos l a (escB_lt hc)
        have := namesF_pos l f (valS l a).2 (out ++ [(valS l a).1]) (by omega) (by simp; omega)
        omega
      · exact ⟨Int.le_refl _, h, ho⟩
theorem namesS_pos (l : List Int) (a : Int) (h : 0 ≤ a ∧ a ≤ l.length) : a ≤ (namesS l a).2 ∧ (namesS l a).2 ≤ l.length ∧ (namesS l a).1.length ≤ 4 * l.length := by
  have h1 := namesF_pos l (l.length + 1) a [] h.2 (by simp; omega)
  have h2 := textS_len (namesF l (l.length + 1) a []).1
  unfold namesS
  refine ⟨h1.1, h1.2.1, ?_⟩
  show (textS _).length ≤ _
  omega
def calB (l : List Int) (s : List UInt8) (k : Int) : Bool := decide (lowS s = [117, 114, 108]) && !isB l k 34 && !isB l k 39
def calC (l : List Int) (a : Int) (s : List UInt8) (to k : Int) : Tok := if calB l s k then urlS l a k else ⟨2, a, to + 1, s, [], false⟩
def calS (l : List Int) (a : Int) : Tok :=
  if isB l (namesS l a).2 40 then calC l a (namesS l a).1 (namesS l a).2 (spE l (l.length + 1) ((namesS l a).2 + 1))
  else ⟨1, a, (namesS l a).2, (namesS l a).1, [], false⟩
section
variable {l : List Int} (hl : Chs l)
include hl
theorem d_cal0 (a to : Int) (s : List UInt8) (hs : s.length ≤ 100000000000) (ht : 0 ≤ to ∧ to ≤ l.length) : ∀ (g : Nat) (k : Int), (l.length : Int) - k < g → 0 ≤ k ∧ k ≤ l.length →
    l_Z1x_0 (Mi cx) 0 1 [.sl (ints l) .no, .int .i64 a, .ptr 0 0, .str s, .int .i64 to, .int .i64 k] [.cells [.int .i64 0, .int .i64 0, .int .i64 0, .str [], .str [], .bool false]] = some ((calC l a s to (spE l g k)).v, [])
  | 0, k, hf, ha => by omega
  | g + 1, k, hf, ha => by
    have hl2 := hl.2
    have h1 := fun σ hσ => d_space hl (i := k) (by omega) σ hσ
    rw [u_Z1x_0]
    cases hsp : spB l k with
    | true =>
      have hlt := spB_lt hsp
      have ih := d_cal0 a to s hs ht g (k + 1) (by omega) (by omega)
      simp +contextual -implicitDefEqProofs (disch := first | assumption | omega | (simp -implicitDefEqProofs only [go_sem]; try omega)) only [↓reduceIte, go_sem, iP, iN, w64, w8, w32, b_Z1x_0, h1, hsp, spE, ih]
    | false =>
      have h2 := fun σ hσ => d_Lower s hs σ hσ
      have h3 := fun σ hσ => d_is hl (i := k) (by omega) σ hσ 34
      have h4 := fun σ hσ => d_is hl (i := k) (by omega) σ hσ 39
      have h5 := fun σ hσ => d_url hl a k (by omega) σ hσ
      have e : spE l (g + 1) k = k := by unfold spE; rw [hsp]; rfl
      rw [e]
      unfold calC calB
      by_cases c1 : lowS s = [117, 114, 108]
      · cases c2 : isB l k 34 with
        | true => simp +contextual -implicitDefEqProofs (disch := first | assumption | omega | (simp -implicitDefEqProofs only [go_sem]; try omega)) only [↓reduceIte, go_sem, iP, iN, w64, w8, w32, b_Z1x_0, h1, hsp, h2, h3, h4, c1, c2, Tok.v]
        | false =>
          cases c3 : isB l k 39 with
          | true => simp +contextual -implicitDefEqProofs (disch := first | assumption | omega | (simp -implicitDefEqProofs only [go_sem]; try omega)) only [↓reduceIte, go_sem, iP, iN, w64, w8, w32, b_Z1x_0, h1, hsp, h2, h3, h4, c1, c2, c3, Tok.v]
          | false => simp +contextual -implicitDefEqProofs (disch := first | assumption | omega | (simp -implicitDefEqProofs only [go_sem]; try omega)) only [↓reduceIte, go_sem, iP, iN, w64, w8, w32, b_Z1x_0, h1, hsp, h2, h3, h4, h5, c1, c2, c3, Tok.v]
      · simp +contextual -implicitDefEqProofs (disch := first | assumption | omega | (simp -implicitDefEqProofs only [go_sem]; try omega)) only [↓reduceIte, go_sem, iP, iN, w64, w8, w32, b_Z1x_0, h1, hsp, h2, h3, h4, c1, Tok.v]
theorem d_called (a : Int) (ha : 0 ≤ a ∧ a ≤ l.length) (σ : Objs) (hσ : Wf σ) : E cx 81 [.sl (ints l) .no, .int .i64 a] σ = some ((calS l a).v, σ) := by
  refine E_any cx_cl ?_ (by rw [rbs_cons, ints_rb]; rfl) ?_ σ hσ
  · have hl2 := hl.2
    have hp := namesS_pos l a ha
    have h1 := fun σ hσ => d_names l hl a ha σ hσ
    have h2 := fun σ hσ => d_is hl (i := (namesS l a).2) (by omega) σ hσ 40
    rw [e_Z1x]
    unfold calS
    cases c1 : isB l (namesS l a).2 40 with
    | true =>
      have hlt := isB_lt c1
      have h := d_cal0 hl a (namesS l a).2 (namesS l a).1 (by omega) (by omega) (l.length + 1) ((namesS l a).2 + 1) (by omega) (by omega)
      simp +contextual -implicitDefEqProofs (disch := first | assumption | omega | (simp -implicitDefEqProofs only [go_sem]; try omega)) only [↓reduceIte, go_sem, iP, iN, w64, w8, w32, s_Z1x, h1, h2, c1, h]
    | false => simp +contextual -implicitDefEqProofs (disch := first | assumption | omega | (simp -implicitDefEqProofs only [go_sem]; try omega)) only [↓reduceIte, go_sem, iP, iN, w64, w8, w32, s_Z1x, h1, h2, c1, Tok.v]
  · rfl
end
end Go.Proofs.YtkgkmlhljeidhaaGreatDoor
set_option linter.unusedSimpArgs false
set_option linter.unusedVariables false
set_option linter.unusedSectionVars false
namespace Go.Proofs.YtkgkmlhljeidhaaGreatDoor
open Go.Ev
set_option maxRecDepth 100000
def sgnF (l : List Int) (i c : Int) : List (Int × Int) → Tok
  | [] => ⟨9, i, i + 1, textS (cutL l i (i + 1)), [], false⟩
  | (s, k) :: r => if c = s then ⟨k, i, i + 1, [], [], false⟩ else sgnF l i c r
section
variable {l : List Int} (hl : Chs l)
include hl
theorem d_spc (i : Int) : ∀ (g : Nat) (k : Int), (l.length : Int) - k < g → 0 ≤ k ∧ k ≤ l.length →
    l_Z1t_0 (Mi cx) 0 1 [.sl (ints l) .no, .ptr 0 0, .int .i64 i, .int .i64 k] [.cells [.int .i64 0, .int .i64 0, .int .i64 0, .str [], .str [], .bool false]] = some ((Tok.mk 13 i (spE l g k) [] [] false).v, [])
  | 0, k, hf, ha => by omega
  | g + 1, k, hf, ha => by
    have hl2 := hl.2
    have h1 := fun σ hσ => d_space hl (i := k) (by omega) σ hσ
    rw [u_Z1t_0]
    cases hsp : spB l k with
    | true =>
      have hlt := spB_lt hsp
      have ih := d_spc i g (k + 1) (by omega) (by omega)
      simp +contextual -implicitDefEqProofs (disch := first | assumption | omega | (simp -implicitDefEqProofs only [go_sem]; try omega)) only [↓reduceIte, go_sem, iP, iN, w64, w8, w32, b_Z1t_0, h1, hsp, spE, ih]
    | false => simp +contextual -implicitDefEqProofs (disch := first | assumption | omega | (simp -implicitDefEqProofs only [go_sem]; try omega)) only [↓reduceIte, go_sem, iP, iN, w64, w8, w32, b_Z1t_0, h1, hsp, spE, Tok.v]
theorem d_sgn9 (i c : Int) (hi : 0 ≤ i ∧ i < l.length) : l_Z1t_1 (Mi cx) 0 1 [.sl (ints l) .no, .ptr 0 0, .int .i64 i, .int .i64 c, .str [40, 41, 91, 93, 123, 125, 44, 58, 59], .sl [.int .i64 21, .int .i64 22, .int .i64 19, .int .i64 20, .int .i64 23, .int .i64 24, .int .i64 18, .int .i64 16, .int .i64 17] .fx, .int .i64 9] [.cells [.int .i64 0, .int .i64 0, .int .i64 0, .str [], .str [], .bool false]] = some ((sgnF l i c []).v, []) := by
  have hl2 := hl.2
  have h1 := fun σ hσ => d_text (cutL l i (i + 1)) (hl.cut _ _) .no σ hσ
  have h2 : evCut 1 (.sl (ints l) .no) (some (.int .i64 i)) (some (.int .i64 (i + 1))) none = some (.sl (ints (cutL l i (i + 1))) .no) := cut_ints (by omega)
  rw [u_Z1t_1]
  simp +contextual -implicitDefEqProofs (disch := first | assumption | omega | (simp -implicitDefEqProofs only [go_sem]; try omega)) only [↓reduceIte, go_sem, iP, iN, w64, w8, w32, b_Z1t_1, h1, h2, sgnF, Tok.v]
theorem d_sgn8 (i c : Int) (hi : 0 ≤ i ∧ i < l.length) : l_Z1t_1 (Mi cx) 0 1 [.sl (ints l) .no, .ptr 0 0, .int .i64 i, .int .i64 c, .str [40, 41, 91, 93, 123, 125, 44, 58, 59], .sl [.int .i64 21, .int .i64 22, .int .i64 19, .int .i64 20, .int .i64 23, .int .i64 24, .int .i64 18, .int .i64 16, .int .i64 17] .fx, .int .i64 8] [.cells [.int .i64 0, .int .i64 0, .int .i64 0, .str [], .str [], .bool false]] = some ((sgnF l i c [(59, 17)]).v, []) := by
  have hl2 := hl.2
  have h1 := d_sgn9 hl i c hi
  rw [u_Z1t_1]
  have h3 : evIdx (.int .i64 8) (.str [40, 41, 91, 93, 123, 125, 44, 58, 59]) = some (.int .u8 59) := by rfl
  have h4 : eI 1 (.int .i64 8) (.sl [.int .i64 21, .int .i64 22, .int .i64 19, .int .i64 20, .int .i64 23, .int .i64 24, .int .i64 18, .int .i64 16, .int .i64 17] .fx) = some (.eptr [.int .i64 17] 0) := by rfl
  have h5 : eI 1 (.int .i64 8) (.sl [.int .i64 21, .int .i64 22, .int .i64 19, .int .i64 20, .int .i64 23, .int .i64 24, .int .i64 18, .int .i64 16, .int .i64 17] .no) = some (.eptr [.int .i64 17] 0) := by rfl
  by_cases e : (59 : Int) = c
  · subst e
    simp +contextual -implicitDefEqProofs (disch := first | assumption | omega | (simp -implicitDefEqProofs only [go_sem]; try omega)) only [↓reduceIte, go_sem, iP, iN, w64, w8, w32, b_Z1t_1, h1, h3, h4, h5, sgnF, Tok.v]
  · have e' : ¬ c = 59 := fun x => e x.symm
    have e2 : sgnF l i c [(59, 17)] = sgnF l i c [] := if_neg e'
    rw [e2]
    simp +contextual -implicitDefEqProofs (disch := first | assumption | omega | (simp -implicitDefEqProofs only [go_sem]; try omega)) only [↓reduceIte, go_sem, iP, iN, w64, w8, w32, b_Z1t_1, h1, h3, h4, h5, e]
theorem d_sgn7 (i c : Int) (hi : 0 ≤ i ∧ i < l.length) : l_Z1t_1 (Mi cx) 0 1 [.sl (ints l) .no, .ptr 0 0, .int .i64 i, .int .i64 c, .str [40, 41, 91, 93, 123, 125, 44, 58, 59], .sl [.int .i64 21, .int .i64 22, .int .i64 19, .int .i64 20, .int .i64 23, .int .i64 24, .int .i64 18, .int .i64 16, .int .i64 17] .fx, .int .i64 7] [.cells [.int .i64 0, .int .i64 0, .int .i64 0, .str [], .str [], .bool false]] = some ((sgnF l i c [(58, 16), (59, 17)]).v, []) := by
  have hl2 := hl.2
  have h1 := d_sgn8 hl i c hi
  rw [u_Z1t_1]
  have h3 : evIdx (.int .i64 7) (.str [40, 41, 91, 93, 123, 125, 44, 58, 59]) = some (.int .u8 58) := by rfl
  have h4 : eI 1 (.int .i64 7) (.sl [.int .i64 21, .int .i64 22, .int .i64 19, .int .i64 20, .int .i64 23, .int .i64 24, .int .i64 18, .int .i64 16, .int .i64 17] .fx) = some (.eptr [.int .i64 16] 0) := by rfl
  have h5 : eI 1 (.int .i64 7) (.sl [.int .i64 21, .int .i64 22, .int .i64 19, .int .i64 20, .int .i64 23, .int .i64 24, .int .i64 18, .int .i64 16, .int .i64 17] .no) = some (.eptr [.int .i64 16] 0) := by rfl
  by_cases e : (58 : Int) = c
  · subst e
    simp +contextual -implicitDefEqProofs (disch := first | assumption | omega | (simp -implicitDefEqProofs only [go_sem]; try omega)) only [↓reduceIte, go_sem, iP, iN, w64, w8, w32, b_Z1t_1, h1, h3, h4, h5, sgnF, Tok.v]
  · have e' : ¬ c = 58 := fun x => e x.symm
    have e2 : sgnF l i c [(58, 16), (59, 17)] = sgnF l i c [(59, 17)] := if_neg e'
    rw [e2]
    simp +contextual -implicitDefEqProofs (disch := first | assumption | omega | (simp -implicitDefEqProofs only [go_sem]; try omega)) only [↓reduceIte, go_sem, iP, iN, w64, w8, w32, b_Z1t_1, h1, h3, h4, h5, e]
theorem d_sgn6 (i c : Int) (hi : 0 ≤ i ∧ i < l.length) : l_Z1t_1 (Mi cx) 0 1 [.sl (ints l) .no, .ptr 0 0, .int .i64 i, .int .i64 c, .str [40, 41, 91, 93, 123, 125, 44, 58, 59], .sl [.int .i64 21, .int .i64 22, .int .i64 19, .int .i64 20, .int .i64 23, .int .i64 24, .int .i64 18, .int .i64 16, .int .i64 17] .fx, .int .i64 6] [.cells [.int .i64 0, .int .i64 0, .int .i64 0, .str [], .str [], .bool false]] = some ((sgnF l i c [(44, 18), (58, 16), (59, 17)]).v, []) := by
  have hl2 := hl.2
  have h1 := d_sgn7 hl i c hi
  rw [u_Z1t_1]
  have h3 : evIdx (.int .i64 6) (.str [40, 41, 91, 93, 123, 125, 44, 58, 59]) = some (.int .u8 44) := by rfl
  have h4 : eI 1 (.int .i64 6) (.sl [.int .i64 21, .int .i64 22, .int .i64 19, .int .i64 20, .int .i64 23, .int .i64 24, .int .i64 18, .int .i64 16, .int .i64 17] .fx) = some (.eptr [.int .i64 18] 0) := by rfl
  have h5 : eI 1 (.int .i64 6) (.sl [.int .i64 21, .int .i64 22, .int .i64 19, .int .i64 20, .int .i64 23, .int .i64 24, .int .i64 18, .int .i64 16, .int .i64 17] .no) = some (.eptr [.int .i64 18] 0) := by rfl
  by_cases e : (44 : Int) = c
  · subst e
    simp +contextual -implicitDefEqProofs (disch := first | assumption | omega | (simp -implicitDefEqProofs only [go_sem]; try omega)) only [↓reduceIte, go_sem, iP, iN, w64, w8, w32, b_Z1t_1, h1, h3, h4, h5, sgnF, Tok.v]
  · have e' : ¬ c = 44 := fun x => e x.symm
    have e2 : sgnF l i c [(44, 18), (58, 16), (59, 17)] = sgnF l i c [(58, 16), (59, 17)] := if_neg e'
    rw [e2]
    simp +contextual -implicitDefEqProofs (disch := first | assumption | omega | (simp -implicitDefEqProofs only [go_sem]; try omega)) only [↓reduceIte, go_sem, iP, iN, w64, w8, w32, b_Z1t_1, h1, h3, h4, h5, e]
theorem d_sgn5 (i c : Int) (hi : 0 ≤ i ∧ i < l.length) : l_Z1t_1 (Mi cx) 0 1 [.sl (ints l) .no, .ptr 0 0, .int .i64 i, .int .i64 c, .str [40, 41, 91, 93, 123, 125, 44, 58, 59], .sl [.int .i64 21, .int .i64 22, .int .i64 19, .int .i64 20, .int .i64 23, .int .i64 24, .int .i64 18, .int .i64 16, .int .i64 17] .fx, .int .i64 5] [.cells [.int .i64 0, .int .i64 0, .int .i64 0, .str [], .str [], .bool false]] = some ((sgnF l i c [(125, 24), (44, 18), (58, 16), (59, 17)]).v, []) := by
  have hl2 := hl.2
  have h1 := d_sgn6 hl i c hi
  rw [u_Z1t_1]
  have h3 : evIdx (.int .i64 5) (.str [40, 41, 91, 93, 123, 125, 44, 58, 59]) = some (.int .u8 125) := by rfl
  have h4 : eI 1 (.int .i64 5) (.sl [.int .i64 21, .int .i64 22, .int .i64 19, .int .i64 20, .int .i64 23, .int .i64 24, .int .i64 18, .int .i64 16, .int .i64 17] .fx) = some (.eptr [.int .i64 24] 0) := by rfl
  have h5 : eI 1 (.int .i64 5) (.sl [.int .i64 21, .int .i64 22, .int .i64 19, .int .i64 20, .int .i64 23, .int .i64 24, .int .i64 18, .int .i64 16, .int .i64 17] .no) = some (.eptr [.int .i64 24] 0) := by rfl
  by_cases e : (125 : Int) = c
  · subst e
    simp +contextual -implicitDefEqProofs (disch := first | assumption | omega | (simp -implicitDefEqProofs only [go_sem]; try omega)) only [↓reduceIte, go_sem, iP, iN, w64, w8, w32, b_Z1t_1, h1, h3, h4, h5, sgnF, Tok.v]
  · have e' : ¬ c = 125 := fun x => e x.symm
    have e2 : sgnF l i c [(125, 24), (44, 18), (58, 16), (59, 17)] = sgnF l i c [(44, 18), (58, 16), (59, 17)] := if_neg e'
    rw [e2]
    simp +contextual -implicitDefEqProofs (disch := first | assumption | omega | (simp -implicitDefEqProofs only [go_sem]; try omega)) only [↓reduceIte, go_sem, iP, iN, w64, w8, w32, b_Z1t_1, h1, h3, h4, h5, e]
theorem d_sgn4 (i c : Int) (hi : 0 ≤ i ∧ i < l.length) : l_Z1t_1 (Mi cx) 0 1 [.sl (ints l) .no, .ptr 0 0, .int .i64 i, .int .i64 c, .str [40, 41, 91, 93, 123, 125, 44, 58, 59], .sl [.int .i64 21, .int .i64 22, .int .i64 19, .int .i64 20, .int .i64 23, .int .i64 24, .int .i64 18, .int .i64 16, .int .i64 17] .fx, .int .i64 4] [.cells [.int .i64 0, .int .i64 0, .int .i64 0, .str [], .str [], .bool false]] = some ((sgnF l i c [(123, 23), (125, 24), (44, 18), (58, 16), (59, 17)]).v, []) := by
  have hl2 := hl.2
  have h1 := d_sgn5 hl i c hi
  rw [u_Z1t_1]
  have h3 : evIdx (.int .i64 4) (.str [40, 41, 91, 93, 123, 125, 44, 58, 59]) = some (.int .u8 123) := by rfl
  have h4 : eI 1 (.int .i64 4) (.sl [.int .i64 21, .int .i64 22, .int .i64 19, .int .i64 20, .int .i64 23, .int .i64 24, .int .i64 18, .int .i64 16, .int .i64 17] .fx) = some (.eptr [.int .i64 23] 0) := by rfl
  have h5 : eI 1 (.int .i64 4) (.sl [.int .i64 21, .int .i64 22, .int .i64 19, .int .i64 20, .int .i64 23, .int .i64 24, .int .i64 18, .int .i64 16, .int .i64 17] .no) = some (.eptr [.int .i64 23] 0) := by rfl
  by_cases e : (123 : Int) = c
  · subst e
    simp +contextual -implicitDefEqProofs (disch := first | assumption | omega | (simp -implicitDefEqProofs only [go_sem]; try omega)) only [↓reduceIte, go_sem, iP, iN, w64, w8, w32, b_Z1t_1, h1, h3, h4, h5, sgnF, Tok.v]
  · have e' : ¬ c = 123 := fun x => e x.symm
    have e2 : sgnF l i c [(123, 23), (125, 24), (44, 18), (58, 16), (59, 17)] = sgnF l i c [(125, 24), (44, 18), (58, 16), (59, 17)] := if_neg e'
    rw [e2]
    simp +contextual -implicitDefEqProofs (disch := first | assumption | omega | (simp -implicitDefEqProofs only [go_sem]; try omega)) only [↓reduceIte, go_sem, iP, iN, w64, w8, w32, b_Z1t_1, h1, h3, h4, h5, e]
theorem d_sgn3 (i c : Int) (hi : 0 ≤ i ∧ i < l.length) : l_Z1t_1 (Mi cx) 0 1 [.sl (ints l) .no, .ptr 0 0, .int .i64 i, .int .i64 c, .str [40, 41, 91, 93, 123, 125, 44, 58, 59], .sl [.int .i64 21, .int .i64 22, .int .i64 19, .int .i64 20, .int .i64 23, .int .i64 24, .int .i64 18, .int .i64 16, .int .i64 17] .fx, .int .i64 3] [.cells [.int .i64 0, .int .i64 0, .int .i64 0, .str [], .str [], .bool false]] = some ((sgnF l i c [(93, 20), (123, 23), (125, 24), (44, 18), (58, 16), (59, 17)]).v, []) := by
  have hl2 := hl.2
  have h1 := d_sgn4 hl i c hi
  rw [u_Z1t_1]
  have h3 : evIdx (.int .i64 3) (.str [40, 41, 91, 93, 123, 125, 44, 58, 59]) = some (.int .u8 93) := by rfl
  have h4 : eI 1 (.int .i64 3) (.sl [.int .i64 21, .int .i64 22, .int .i64 19, .int .i64 20, .int .i64 23, .int .i64 24, .int .i64 18, .int .i64 16, .int .i64 17] .fx) = some (.eptr [.int .i64 20] 0) := by rfl
  have h5 : eI 1 (.int .i64 3) (.sl [.int .i64 21, .int .i64 22, .int .i64 19, .int .i64 20, .int .i64 23, .int .i64 24, .int .i64 18, .int .i64 16, .int .i64 17] .no) = some (.eptr [.int .i64 20] 0) := by rfl
  by_cases e : (93 : Int) = c
  · subst e
    simp +contextual -implicitDefEqProofs (disch := first | assumption | omega | (simp -implicitDefEqProofs only [go_sem]; try omega)) only [↓reduceIte, go_sem, iP, iN, w64, w8, w32, b_Z1t_1, h1, h3, h4, h5, sgnF, Tok.v]
  · have e' : ¬ c = 93 := fun x => e x.symm
    have e2 : sgnF l i c [(93, 20), (123, 23), (125, 24), (44, 18), (58, 16), (59, 17)] = sgnF l i c [(123, 23), (125, 24), (44, 18), (58, 16), (59, 17)] := if_neg e'
    rw [e2]
    simp +contextual -implicitDefEqProofs (disch := first | assumption | omega | (simp -implicitDefEqProofs only [go_sem]; try omega)) only [↓reduceIte, go_sem, iP, iN, w64, w8, w32, b_Z1t_1, h1, h3, h4, h5, e]
theorem d_sgn2 (i c : Int) (hi : 0 ≤ i ∧ i < l.length) : l_Z1t_1 (Mi cx) 0 1 [.sl (ints l) .no, .ptr 0 0, .int .i64 i, .int .i64 c, .str [40, 41, 91, 93, 123, 125, 44, 58, 59], .sl [.int .i64 21, .int .i64 22, .int .i64 19, .int .i64 20, .int .i64 23, .int .i64 24, .int .i64 18, .int .i64 16, .int .i64 17] .fx, .int .i64 2] [.cells [.int .i64 0, .int .i64 0, .int .i64 0, .str [], .str [], .bool false]] = some ((sgnF l i c [(91, 19), (93, 20), (123, 23), (125, 24), (44, 18), (58, 16), (59, 17)]).v, []) := by
  have hl2 := hl.2
  have h1 := d_sgn3 hl i c hi
  rw [u_Z1t_1]
  have h3 : evIdx (.int .i64 2) (.str [40, 41, 91, 93, 123, 125, 44, 58, 59]) = some (.int .u8 91) := by rfl
  have h4 : eI 1 (.int .i64 2) (.sl [.int .i64 21, .int .i64 22, .int .i64 19, .int .i64 20, .int .i64 23, .int .i64 24, .int .i64 18, .int .i64 16, .int .i64 17] .fx) = some (.eptr [.int .i64 19] 0) := by rfl
  have h5 : eI 1 (.int .i64 2) (.sl [.int .i64 21, .int .i64 22, .int .i64 19, .int .i64 20, .int .i64 23, .int .i64 24, .int .i64 18, .int .i64 16, .int .i64 17] .no) = some (.eptr [.int .i64 19] 0) := by rfl
  by_cases e : (91 : Int) = c
  · subst e
    simp +contextual -implicitDefEqProofs (disch := first | assumption | omega | (simp -implicitDefEqProofs only [go_sem]; try omega)) only [↓reduceIte, go_sem, iP, iN, w64, w8, w32, b_Z1t_1, h1, h3, h4, h5, sgnF, Tok.v]
  · have e' : ¬ c = 91 := fun x => e x.symm
    have e2 : sgnF l i c [(91, 19), (93, 20), (123, 23), (125, 24), (44, 18), (58, 16), (59, 17)] = sgnF l i c [(93, 20), (123, 23), (125, 24), (44, 18), (58, 16), (59, 17)] := if_neg e'
    rw [e2]
    simp +contextual -implicitDefEqProofs (disch := first | assumption | omega | (simp -implicitDefEqProofs only [go_sem]; try omega)) only [↓reduceIte, go_sem, iP, iN, w64, w8, w32, b_Z1t_1, h1, h3, h4, h5, e]
theorem d_sgn1 (i c : Int) (hi : 0 ≤ i ∧ i < l.length) : l_Z1t_1 (Mi cx) 0 1 [.sl (ints l) .no, .ptr 0 0, .int .i64 i, .int .i64 c, .str [40, 41, 91, 93, 123, 125, 44, 58, 59], .sl [.int .i64 21, .int .i64 22, .int .i64 19, .int .i64 20, .int .i64 23, .int .i64 24, .int .i64 18, .int .i64 16, .int .i64 17] .fx, .int .i64 1] [.cells [.int .i64 0, .int .i64 0, .int .i64 0, .str [], .str [], .bool false]] = some ((sgnF l i c [(41, 22), (91, 19), (93, 20), (123, 23), (125, 24), (44, 18), (58, 16), (59, 17)]).v, []) := by
  have hl2 := hl.2
  have h1 := d_sgn2 hl i c hi
  rw [u_Z1t_1]
  have h3 : evIdx (.int .i64 1) (.str [40, 41, 91, 93, 123, 125, 44, 58, 59]) = some (.int .u8 41) := by rfl
  have h4 : eI 1 (.int .i64 1) (.sl [.int .i64 21, .int .i64 22, .int .i64 19, .int .i64 20, .int .i64 23, .int .i64 24, .int .i64 18, .int .i64 16, .int .i64 17] .fx) = some (.eptr [.int .i64 22] 0) := by rfl
  have h5 : eI 1 (.int .i64 1) (.sl [.int .i64 21, .int .i64 22, .int .i64 19, .int .i64 20, .int .i64 23, .int .i64 24, .int .i64 18, .int .i64 16, .int .i64 17] .no) = some (.eptr [.int .i64 22] 0) := by rfl
  by_cases e : (41 : Int) = c
  · subst e
    simp +contextual -implicitDefEqProofs (disch := first | assumption | omega | (simp -implicitDefEqProofs only [go_sem]; try omega)) only [↓reduceIte, go_sem, iP, iN, w64, w8, w32, b_Z1t_1, h1, h3, h4, h5, sgnF, Tok.v]
  · have e' : ¬ c = 41 := fun x => e x.symm
    have e2 : sgnF l i c [(41, 22), (91, 19), (93, 20), (123, 23), (125, 24), (44, 18), (58, 16), (59, 17)] = sgnF l i c [(91, 19), (93, 20), (123, 23), (125, 24), (44, 18), (58, 16), (59, 17)] := if_neg e'
    rw [e2]
    simp +contextual -implicitDefEqProofs (disch := first | assumption | omega | (simp -implicitDefEqProofs only [go_sem]; try omega)) only [↓reduceIte, go_sem, iP, iN, w64, w8, w32, b_Z1t_1, h1, h3, h4, h5, e]
theorem d_sgn0 (i c : Int) (hi : 0 ≤ i ∧ i < l.length) : l_Z1t_1 (Mi cx) 0 1 [.sl (ints l) .no, .ptr 0 0, .int .i64 i, .int .i64 c, .str [40, 41, 91, 93, 123, 125, 44, 58, 59], .sl [.int .i64 21, .int .i64 22, .int .i64 19, .int .i64 20, .int .i64 23, .int .i64 24, .int .i64 18, .int .i64 16, .int .i64 17] .fx, .int .i64 0] [.cells [.int .i64 0, .int .i64 0, .int .i64 0, .str [], .str [], .bool false]] = some ((sgnF l i c [(40, 21), (41, 22), (91, 19), (93, 20), (123, 23), (125, 24), (44, 18), (58, 16), (59, 17)]).v, []) := by
  have hl2 := hl.2
  have h1 := d_sgn1 hl i c hi
  rw [u_Z1t_1]
  have h3 : evIdx (.int .i64 0) (.str [40, 41, 91, 93, 123, 125, 44, 58, 59]) = some (.int .u8 40) := by rfl
  have h4 : eI 1 (.int .i64 0) (.sl [.int .i64 21, .int .i64 22, .int .i64 19, .int .i64 20, .int .i64 23, .int .i64 24, .int .i64 18, .int .i64 16, .int .i64 17] .fx) = some (.eptr [.int .i64 21] 0) := by rfl
  have h5 : eI 1 (.int .i64 0) (.sl [.int .i64 21, .int .i64 22, .int .i64 19, .int .i64 20, .int .i64 23, .int .i64 24, .int .i64 18, .int .i64 16, .int .i64 17] .no) = some (.eptr [.int .i64 21] 0) := by rfl
  by_cases e : (40 : Int) = c
  · subst e
    simp +contextual -implicitDefEqProofs (disch := first | assumption | omega | (simp -implicitDefEqProofs only [go_sem]; try omega)) only [↓reduceIte, go_sem, iP, iN, w64, w8, w32, b_Z1t_1, h1, h3, h4, h5, sgnF, Tok.v]
  · have e' : ¬ c = 40 := fun x => e x.symm
    have e2 : sgnF l i c [(40, 21), (41, 22), (91, 19), (93, 20), (123, 23), (125, 24), (44, 18), (58, 16), (59, 17)] = sgnF l i c [(41, 22), (91, 19), (93, 20), (123, 23), (125, 24), (44, 18), (58, 16), (59, 17)] := if_neg e'
    rw [e2]
    simp +contextual -implicitDefEqProofs (disch := first | assumption | omega | (simp -implicitDefEqProofs only [go_sem]; try omega)) only [↓reduceIte, go_sem, iP, iN, w64, w8, w32, b_Z1t_1, h1, h3, h4, h5, e]
end
end Go.Proofs.YtkgkmlhljeidhaaGreatDoor
set_option linter.unusedSimpArgs false
set_option linter.unusedVariables false
set_option linter.unusedSectionVars false
namespace Go.Proofs.YtkgkmlhljeidhaaGreatDoor
open Go.Ev
set_option maxRecDepth 100000
set_option maxHeartbeats 4000000
def nxtC (l : List Int) (i : Int) : Tok :=
  if spaceB (l.getD i.toNat 0) then ⟨13, i, spE l (l.length + 1) i, [], [], false⟩
  else if l.getD i.toNat 0 = 34 then quoS l i
  else if l.getD i.toNat 0 = 39 then quoS l i
  else if numB l i then numS l i
  else if l.getD i.toNat 0 = 45 ∧ isB l (i + 1) 45 = true ∧ isB l (i + 2) 62 = true then ⟨15, i, i + 3, [], [], false⟩
  else if nmB l i then calS l i
  else if l.getD i.toNat 0 = 60 ∧ isB l (i + 1) 33 = true ∧ isB l (i + 2) 45 = true ∧ isB l (i + 3) 45 = true then ⟨14, i, i + 4, [], [], false⟩
  else if l.getD i.toNat 0 = 64 ∧ nmB l (i + 1) = true then ⟨3, i, (namesS l (i + 1)).2, (namesS l (i + 1)).1, [], false⟩
  else if l.getD i.toNat 0 = 35 ∧ (inB l (i + 1) = true ∨ escB l (i + 1) = true) then ⟨4, i, (namesS l (i + 1)).2, (namesS l (i + 1)).1, [], nmB l (i + 1)⟩
  else sgnF l i (l.getD i.toNat 0) [(40, 21), (41, 22), (91, 19), (93, 20), (123, 23), (125, 24), (44, 18), (58, 16), (59, 17)]
def nxtS (l : List Int) (a : Int) : Tok := if (l.length : Int) ≤ behS l a then ⟨0, l.length, l.length, [], [], false⟩ else nxtC l (behS l a)
section
variable {l : List Int} (hl : Chs l)
include hl
theorem d_nx1 (a : Int) (ha : 0 ≤ a ∧ a ≤ l.length) : j_Z1t_1 (Mi cx) 0 (.sl (ints l) .no) (.int .i64 a) (.ptr 0 0) [.cells [.int .i64 0, .int .i64 0, .int .i64 0, .str [], .str [], .bool false]] = some ((nxtS l a).v, []) := by
  have hl2 := hl.2
  have hb := behE_pos l (l.length + 1) a ha.2
  rw [← behS] at hb
  have h1 := fun σ hσ => d_behind hl a ha σ hσ
  unfold nxtS
  generalize hgi : behS l a = i at hb h1
  by_cases c0 : (l.length : Int) ≤ i
  · simp +contextual -implicitDefEqProofs (disch := first | assumption | omega | (simp -implicitDefEqProofs only [go_sem]; try omega)) only [↓reduceIte, go_sem, iP, iN, w64, w8, w32, j_Z1t_1, h1, c0, Tok.v]
  · have h2 := fun σ hσ => d_Space (l.getD i.toNat 0) σ hσ
    rw [if_neg c0]
    unfold nxtC
    cases c1 : spaceB (l.getD i.toNat 0) with
    | true =>
      have h3 := d_spc hl i (l.length + 1) i (by omega) (by omega)
      simp +contextual -implicitDefEqProofs (disch := first | assumption | omega | (simp -implicitDefEqProofs only [go_sem]; try omega)) only [↓reduceIte, go_sem, iP, iN, w64, w8, w32, j_Z1t_1, h1, h2, h3, c0, c1, Tok.v]
    | false =>
      have h4 := fun σ hσ => d_quoted hl i (by omega) σ hσ
      have h5 := fun σ hσ => d_number hl i (by omega) σ hσ
      have h6 := fun σ hσ => d_numeric hl i (by omega) σ hσ
      have h7 := fun σ hσ => d_is hl (i := i + 1) (by omega) σ hσ 45
      have h8 := fun σ hσ => d_is hl (i := i + 2) (by omega) σ hσ 62
      have h9 := fun σ hσ => d_rName hl (i := i) (by omega) σ hσ
      have hA := fun σ hσ => d_called hl i (by omega) σ hσ
      have hB := fun σ hσ => d_is hl (i := i + 1) (by omega) σ hσ 33
      have hC := fun σ hσ => d_is hl (i := i + 2) (by omega) σ hσ 45
      have hD := fun σ hσ => d_is hl (i := i + 3) (by omega) σ hσ 45
      have hE := fun σ hσ => d_rName hl (i := i + 1) (by omega) σ hσ
      have hF := fun σ hσ => d_names l hl (i + 1) (by omega) σ hσ
      have hG := fun σ hσ => d_inner hl (i := i + 1) (by omega) σ hσ
      have hH := fun σ hσ => d_Escape hl (i := i + 1) (by omega) σ hσ
      have hS := fun c => d_sgn0 hl i c (by omega)
      generalize hgc : l.getD i.toNat 0 = c at h2 c1 ⊢
      by_cases c2 : c = 34
      · subst c2
        simp +contextual -implicitDefEqProofs (disch := first | assumption | omega | (simp -implicitDefEqProofs only [go_sem]; try omega)) only [↓reduceIte, go_sem, iP, iN, w64, w8, w32, j_Z1t_1, hgc, h1, h2, c0, c1, h4, Tok.v]
      by_cases c3 : c = 39
      · subst c3
        simp +contextual -implicitDefEqProofs (disch := first | assumption | omega | (simp -implicitDefEqProofs only [go_sem]; try omega)) only [↓reduceIte, go_sem, iP, iN, w64, w8, w32, j_Z1t_1, hgc, h1, h2, c0, c1, h4, Tok.v]
      cases c4 : numB l i with
      | true =>
        simp +contextual -implicitDefEqProofs (disch := first | assumption | omega | (simp -implicitDefEqProofs only [go_sem]; try omega)) only [↓reduceIte, go_sem, iP, iN, w64, w8, w32, j_Z1t_1, hgc, h1, h2, c0, c1, c2, c3, h5, c4, h6, Tok.v]
      | false =>
      by_cases c5 : c = 45
      · subst c5
        cases c6 : isB l (i + 1) 45 <;> cases c7 : isB l (i + 2) 62 <;> cases c8 : nmB l i <;> simp +contextual -implicitDefEqProofs (disch := first | assumption | omega | (simp -implicitDefEqProofs only [go_sem]; try omega)) only [↓reduceIte, go_sem, iP, iN, w64, w8, w32, j_Z1t_1, hgc, h1, h2, c0, c1, h5, c4, h7, h8, h9, hA, hS, c6, c7, c8, Tok.v]
      cases c8 : nmB l i with
      | true =>
        simp +contextual -implicitDefEqProofs (disch := first | assumption | omega | (simp -implicitDefEqProofs only [go_sem]; try omega)) only [↓reduceIte, go_sem, iP, iN, w64, w8, w32, j_Z1t_1, hgc, h1, h2, c0, c1, c2, c3, h5, c4, c5, h9, c8, hA, Tok.v]
      | false =>
      by_cases c9 : c = 60
      · subst c9
        cases cA : isB l (i + 1) 33 <;> cases cB : isB l (i + 2) 45 <;> cases cC : isB l (i + 3) 45 <;> simp +contextual -implicitDefEqProofs (disch := first | assumption | omega | (simp -implicitDefEqProofs only [go_sem]; try omega)) only [↓reduceIte, go_sem, iP, iN, w64, w8, w32, j_Z1t_1, hgc, h1, h2, c0, c1, h5, c4, h9, c8, hB, hC, hD, hS, cA, cB, cC, Tok.v]
      by_cases cD : c = 64
      · subst cD
        cases cE : nmB l (i + 1) <;> simp +contextual -implicitDefEqProofs (disch := first | assumption | omega | (simp -implicitDefEqProofs only [go_sem]; try omega)) only [↓reduceIte, go_sem, iP, iN, w64, w8, w32, j_Z1t_1, hgc, h1, h2, c0, c1, h5, c4, h9, c8, hE, hF, hS, cE, Tok.v]
      by_cases cF : c = 35
      · subst cF
        cases cG : inB l (i + 1) <;> cases cH : escB l (i + 1) <;> simp +contextual -implicitDefEqProofs (disch := first | assumption | omega | (simp -implicitDefEqProofs only [go_sem]; try omega)) only [↓reduceIte, go_sem, iP, iN, w64, w8, w32, j_Z1t_1, hgc, h1, h2, c0, c1, h5, c4, h9, c8, hE, hF, hG, hH, hS, cG, cH, Tok.v]
      simp +contextual -implicitDefEqProofs (disch := first | assumption | omega | (simp -implicitDefEqProofs only [go_sem]; try omega)) only [↓reduceIte, go_sem, iP, iN, w64, w8, w32, j_Z1t_1, hgc, h1, h2, c0, c1, c2, c3, h5, c4, c5, h9, c8, c9, cD, cF, hS, Tok.v]
theorem d_Next (a : Int) (ha : 0 ≤ a ∧ a ≤ l.length) (σ : Objs) (hσ : Wf σ) : E cx 50 [.sl (ints l) .no, .int .i64 a] σ = some ((nxtS l a).v, σ) := by
  refine E_any cx_cl ?_ (by rw [rbs_cons, ints_rb]; rfl) rfl σ hσ
  have hl2 := hl.2
  have h := d_nx1 hl a ha
  rw [e_Z1t]
  simp +contextual -implicitDefEqProofs (disch := first | assumption | omega | (simp -implicitDefEqProofs only [go_sem]; try omega)) only [↓reduceIte, go_sem, iP, iN, w64, w8, w32, s_Z1t, j_Z1t_0, h]
end
end Go.Proofs.YtkgkmlhljeidhaaGreatDoor
set_option linter.unusedSimpArgs false
set_option linter.unusedVariables false
set_option linter.unusedSectionVars false
namespace Go.Proofs.YtkgkmlhljeidhaaGreatDoor
open Go.Ev
set_option maxRecDepth 100000
set_option maxHeartbeats 4000000
def allF (l : List Int) : Nat → Int → List Tok
  | 0, a => []
  | f + 1, a => if (nxtS l a).k = 0 then [nxtS l a] else nxtS l a :: allF l f (nxtS l a).t
def allS (l : List Int) : List Tok := allF l (l.length + 1) 0
def Goes (l : List Int) : Prop := ∀ a : Int, 0 ≤ a ∧ a ≤ l.length → (nxtS l a).k = 0 ∨ a < (nxtS l a).t ∧ (nxtS l a).t ≤ l.length
def toks (l : List Tok) : List V := l.map Tok.v
theorem rbs_toks {n : Nat} {l : List Tok} : V.rbs n (toks l) = true := rbs_map fun _ => rfl
attribute [go_sem] rbs_toks
theorem app_tok {l : List Tok} {x : Tok} {c c' : Cap} {σ : Objs} (hc : c = .fx ∨ c = .gr 6) (hl : (l.length + 1) * 64 ≤ rowMax) : appV false true 6 64 σ (.sl (toks l) c) (.sl [x.v] c') = some (.sl (toks (l ++ [x])) (.gr 6)) :=
  app_map (f := Tok.v) (m := [x]) (fun _ => rfl) (fun _ => rfl) (fun _ => rfl) hc (by simp) hl
section
variable {l : List Int} (hl : Chs l) (hP : Goes l)
include hl hP
theorem d_all0 : ∀ (f : Nat) (a : Int) (out : List Tok) (cap : Cap), (l.length : Int) - a < f → 0 ≤ a ∧ a ≤ l.length → (cap = .fx ∨ cap = .gr 6) → (out.length : Int) ≤ a →
    l_Z1q_0 (Mi cx) 0 0 [.sl (ints l) .no, .sl (toks out) cap, .int .i64 a] [] = some (.sl (toks (out ++ allF l f a)) .no, [])
  | 0, a, out, cap, hf, ha, hc, ho => by omega
  | f + 1, a, out, cap, hf, ha, hc, ho => by
    have hl2 := hl.2
    have hm : rowMax = 140737488355328 := rfl
    have h1 := d_Next hl a ha [] wf_nil
    have hp := hP a ha
    unfold allF
    generalize nxtS l a = t at h1 hp ⊢
    have h2 := fun σ => app_tok (l := out) (x := t) (c := cap) (c' := .no) (σ := σ) hc (by omega)
    have hr : ∀ n, V.rbs n (toks (out ++ [t])) = true := fun n => rbs_toks
    rw [u_Z1q_0]
    by_cases hk : t.k = 0
    · rw [if_pos hk]
      simp only [Tok.v, hk] at h1 h2
      simp +contextual -implicitDefEqProofs (disch := first | assumption | omega | (simp -implicitDefEqProofs only [go_sem]; try omega)) only [↓reduceIte, go_sem, iP, iN, w64, w8, w32, b_Z1q_0, h1, h2, hr]
    · have ih := d_all0 f t.t (out ++ [t]) (.gr 6) (by omega) (by omega) (.inr rfl) (by simp; omega)
      rw [if_neg hk]
      rw [List.append_assoc] at ih
      simp only [Tok.v] at h1 h2
      simp +contextual -implicitDefEqProofs (disch := first | assumption | omega | (simp -implicitDefEqProofs only [go_sem]; try omega)) only [↓reduceIte, go_sem, iP, iN, w64, w8, w32, b_Z1q_0, h1, h2, hk, hr, ih]
end
end Go.Proofs.YtkgkmlhljeidhaaGreatDoor
set_option linter.unusedSimpArgs false
set_option linter.unusedVariables false
set_option linter.unusedSectionVars false
namespace Go.Proofs.YtkgkmlhljeidhaaGreatDoor
open Go.Ev
set_option maxRecDepth 100000
def dig8 (b : UInt8) : Prop := 48 ≤ b.toNat ∧ b.toNat ≤ 57
def Num (n : List UInt8) : Prop := ∃ d : List UInt8, d ≠ [] ∧ (∀ b ∈ d, dig8 b) ∧ (n = d ∨ n = 43 :: d ∨ n = 45 :: d)
structure TokOk (l : List Int) (i : Int) (t : Tok) : Prop where
  lo : t.k = 0 ∨ i < t.t
  hi : t.t ≤ l.length
  ls : t.s.length ≤ 4 * l.length
  ln : t.n.length ≤ 4 * l.length
  num : (t.k = 10 ∨ t.k = 12) → t.w = true → Num t.n
theorem cutL_cons (l : List Int) (a b : Int) (ha : 0 ≤ a ∧ a < b ∧ b ≤ l.length) : cutL l a b = l.getD a.toNat 0 :: cutL l (a + 1) b := by
  have h1 : a.toNat < l.length := by omega
  have e1 : (a + 1).toNat = a.toNat + 1 := by omega
  have e2 : b.toNat - a.toNat = (b.toNat - (a.toNat + 1)) + 1 := by omega
  unfold cutL
  rw [List.drop_eq_getElem_cons h1, e2, List.take_succ_cons, e1, List.getD_eq_getElem?_getD, List.getElem?_eq_getElem h1]
  rfl
theorem cutL_len (l : List Int) (a b : Int) : (cutL l a b).length ≤ l.length := by
  simp only [cutL, List.length_take, List.length_drop]; omega
theorem textS_cons (c : Int) (l : List Int) (h : 1 ≤ c ∧ c ≤ 127) : textS (c :: l) = putB c :: textS l := by
  have e : nz c = c := if_neg (by omega)
  have e2 : rightB c = true := by
    unfold rightB
    simp only [Bool.and_eq_true, Bool.or_eq_true, decide_eq_true_eq]
    omega
  unfold textS
  rw [List.map_cons, textR_cons, e, e2, if_pos rfl]
  unfold putS
  rw [if_pos (by omega)]
  rfl
theorem textS_dig (l : List Int) : ∀ (n : Nat) (a b : Int), b - a = n → 0 ≤ a ∧ b ≤ l.length → (∀ j, a ≤ j → j < b → dgB l j = true) →
    (textS (cutL l a b)).length = n ∧ ∀ x ∈ textS (cutL l a b), dig8 x
  | 0, a, b, hn, hb, hd => by
    have e : cutL l a b = [] := by
      unfold cutL
      rw [show b.toNat - a.toNat = 0 by omega, List.take_zero]
    rw [e]
    exact ⟨rfl, fun x hx => absurd hx (List.not_mem_nil)⟩
  | n + 1, a, b, hn, hb, hd => by
    have h1 := hd a (Int.le_refl _) (by omega)
    have h2 : 48 ≤ l.getD a.toNat 0 ∧ l.getD a.toNat 0 ≤ 57 := by
      unfold dgB digitB at h1
      simp only [Bool.and_eq_true, decide_eq_true_eq] at h1
      omega
    have ih := textS_dig l n (a + 1) b (by omega) (by omega) (fun j hj => hd j (by omega))
    rw [cutL_cons l a b (by omega), textS_cons _ _ (by omega)]
    refine ⟨by rw [List.length_cons, ih.1], fun x hx => ?_⟩
    rcases List.mem_cons.1 hx with hx | hx
    · have := putB_nat (x := l.getD a.toNat 0) (by omega)
      rw [← hx] at this
      unfold dig8; omega
    · exact ih.2 x hx
theorem dgE_all (l : List Int) : ∀ (f : Nat) (a j : Int), a ≤ j → j < dgE l f a → dgB l j = true
  | 0, a, j, h, h2 => by unfold dgE at h2; omega
  | f + 1, a, j, h, h2 => by
    unfold dgE at h2
    split at h2
    · rename_i hd
      by_cases e : j = a
      · rw [e]; exact hd
      · exact dgE_all l f (a + 1) j (by omega) h2
    · omega
theorem dE_gt (l : List Int) (a : Int) (h : dgB l a = true) : a < dE l a := by
  have h1 := dgB_lt h
  have h2 := dgE_pos l l.length (a + 1) (by omega)
  have e : dE l a = dgE l l.length (a + 1) := by
    unfold dE
    show (if dgB l a then dgE l l.length (a + 1) else a) = _
    rw [if_pos h]
  omega
theorem dE_no (l : List Int) (a : Int) (h : dgB l a = false) : dE l a = a := by
  unfold dE
  show (if dgB l a then dgE l l.length (a + 1) else a) = _
  rw [h]; rfl
theorem digS_gt (l : List Int) (a : Int) (h : numB l a = true) (ha : a ≤ l.length) : a < (digS l a).1 := by
  have h1 := sg_pos l a
  have h2 := dE_pos l (sg l a) (by omega)
  have h3 := fracS_pos l (dE l (sg l a)) true h2.2
  unfold digS
  cases hd : dgB l (sg l a) with
  | true => have := dE_gt l (sg l a) hd; omega
  | false =>
    unfold numB at h
    rw [hd, Bool.false_or] at h
    have e := dE_no l (sg l a) hd
    rw [e] at h3 ⊢
    have h4 := dgB_lt (Bool.and_eq_true _ _ ▸ h).2
    unfold fracS
    rw [h, if_pos rfl]
    have h5 := dE_pos l (sg l a + 1) (by omega)
    have h6 := expS_pos l (dE l (sg l a + 1)) false h5.2
    omega
theorem expS_w (l : List Int) (a : Int) (w : Bool) (h : (expS l a w).2 = true) : (expS l a w).1 = a ∧ w = true := by
  unfold expS at h ⊢
  split at h
  · rename_i h1
    split at h
    · exact absurd h (by simp)
    · rename_i h2
      rw [if_neg h2]; simp at h; split <;> exact ⟨rfl, h⟩
  · rename_i h1
    rw [if_neg h1]; exact ⟨rfl, h⟩
theorem digS_whole (l : List Int) (a : Int) (h : numB l a = true) (hw : (digS l a).2 = true) : (digS l a).1 = dE l (sg l a) ∧ dgB l (sg l a) = true := by
  unfold digS fracS at hw ⊢
  cases hf : (isB l (dE l (sg l a)) 46 && dgB l (dE l (sg l a) + 1)) with
  | true =>
    rw [hf, if_pos rfl] at hw
    exact absurd (expS_w _ _ _ hw).2 (by simp)
  | false =>
    rw [hf] at hw
    have h1 := expS_w _ _ _ hw
    refine ⟨h1.1, ?_⟩
    cases hd : dgB l (sg l a) with
    | true => rfl
    | false =>
      exfalso
      unfold numB at h
      rw [hd, Bool.false_or] at h
      rw [dE_no l _ hd, h] at hf
      cases hf
theorem num_ok (l : List Int) (a : Int) (h : numB l a = true) (hw : (digS l a).2 = true) (ha : 0 ≤ a ∧ a ≤ l.length) : Num (textS (cutL l a (digS l a).1)) := by
  have h1 := digS_whole l a h hw
  have h2 := sg_pos l a
  have h3 := dE_pos l (sg l a) (by omega)
  have h4 := dE_gt l (sg l a) h1.2
  rw [h1.1]
  have h5 := textS_dig l (dE l (sg l a) - sg l a).toNat (sg l a) (dE l (sg l a)) (by omega) (by omega) (fun j hj hj2 => dgE_all l (l.length + 1) (sg l a) j hj hj2)
  refine ⟨textS (cutL l (sg l a) (dE l (sg l a))), fun e => ?_, h5.2, ?_⟩
  · rw [e] at h5
    have := h5.1
    simp only [List.length_nil] at this
    omega
  · cases hs : sgB l a with
    | false =>
      have e : sg l a = a := by unfold sg; rw [hs]; rfl
      rw [e]; exact .inl rfl
    | true =>
      have e : sg l a = a + 1 := by unfold sg; rw [hs]; rfl
      rw [e] at h3 h4 ⊢
      right
      have hc : l.getD a.toNat 0 = 43 ∨ l.getD a.toNat 0 = 45 := by
        unfold sgB isB at hs
        simp only [Bool.or_eq_true, Bool.and_eq_true, decide_eq_true_eq] at hs
        rcases hs with hs | hs
        · exact .inl hs.2
        · exact .inr hs.2
      rw [cutL_cons l a _ (by omega), textS_cons _ _ (by omega)]
      rcases hc with hc | hc
      · left; rw [hc]; rfl
      · right; rw [hc]; rfl
theorem numS_ok (l : List Int) (a : Int) (h : numB l a = true) (ha : 0 ≤ a ∧ a ≤ l.length) : TokOk l a (numS l a) := by
  have h1 := digS_gt l a h ha.2
  have h2 := digS_pos l a ha.2
  have h3 := textS_len (cutL l a (digS l a).1)
  have h4 := cutL_len l a (digS l a).1
  have h5 := namesS_pos l (digS l a).1 (by omega)
  have h6 := fun hw => num_ok l a h hw ha
  unfold numS
  split
  · exact ⟨.inr (show a < (namesS l (digS l a).1).2 by omega), h5.2.1, h5.2.2, show (textS _).length ≤ _ by omega, fun _ hw => h6 hw⟩
  · split
    · rename_i hi
      have := isB_lt hi
      exact ⟨.inr (show a < (digS l a).1 + 1 by omega), show (digS l a).1 + 1 ≤ _ by omega, Nat.zero_le _, show (textS _).length ≤ _ by omega, fun hk => by simp at hk⟩
    · exact ⟨.inr h1, h2.2, Nat.zero_le _, show (textS _).length ≤ _ by omega, fun _ hw => h6 hw⟩
theorem tok_ok (l : List Int) (i : Int) (k f t : Int) (s : List UInt8) (w : Bool) (h1 : i < t) (h2 : t ≤ l.length) (h3 : s.length ≤ 4 * l.length) (h4 : k ≠ 10 ∧ k ≠ 12) : TokOk l i ⟨k, f, t, s, [], w⟩ :=
  ⟨.inr h1, h2, h3, Nat.zero_le _, fun h => absurd h (by simp only []; omega)⟩
theorem tif {l : List Int} {i : Int} {c : Prop} [Decidable c] {x y : Tok} (h1 : c → TokOk l i x) (h2 : ¬ c → TokOk l i y) : TokOk l i (if c then x else y) := by
  by_cases h : c
  · rw [if_pos h]; exact h1 h
  · rw [if_neg h]; exact h2 h
theorem rest_ok (l : List Int) (i fr k : Int) (h : i < k ∧ k ≤ l.length) : TokOk l i (restS l fr k) := by
  have h1 := rstE_pos l (l.length + 1) k h.2
  unfold restS rstF
  refine tok_ok _ _ _ _ _ _ _ ?_ ?_ (Nat.zero_le _) (by omega)
  · split <;> omega
  · split <;> omega
theorem txt_ok (l : List Int) (out : List Int) (h : (out.length : Int) ≤ l.length) : (textS out).length ≤ 4 * l.length := by
  have := textS_len out
  omega
theorem url_ok (l : List Int) (i0 fr : Int) (h0 : 0 ≤ i0) : ∀ (f : Nat) (i : Int) (out : List Int), i0 < i ∧ i ≤ l.length → (out.length : Int) ≤ i → TokOk l i0 (urlF l fr f i out)
  | 0, i, out, hi, ho => rest_ok l i0 fr i hi
  | f + 1, i, out, hi, ho => by
    have h1 := spE_pos l (l.length + 1) i hi.2
    have h2 := txt_ok l out (by omega)
    unfold urlF urlC
    generalize spE l (l.length + 1) i = k at h1
    have h3 := rest_ok l i0 fr k (by omega)
    refine tif (fun c => tok_ok _ _ _ _ _ _ _ (by omega) (by omega) h2 (by omega)) fun c0 => ?_
    refine tif (fun c => tok_ok _ _ _ _ _ _ _ (by omega) (by omega) h2 (by omega)) fun c1 => ?_
    refine tif (fun c => h3) fun c2 => ?_
    refine tif (fun c => h3) fun c3 => ?_
    refine tif (fun c => h3) fun c4 => ?_
    refine tif (fun c => h3) fun c5 => ?_
    refine tif (fun c => h3) fun c6 => ?_
    refine tif (fun c => tif (fun he => ?_) fun _ => h3) fun c7 => ?_
    · have hv := valS_pos l k (escB_lt he)
      exact url_ok l i0 fr h0 f _ _ (by omega) (by simp; omega)
    · exact url_ok l i0 fr h0 f _ _ (by omega) (by simp; omega)
theorem quo_ok (l : List Int) (i0 fr m : Int) (h0 : 0 ≤ i0) : ∀ (f : Nat) (i : Int) (out : List Int), (l.length : Int) - i < f → i0 < i ∧ i ≤ l.length → (out.length : Int) ≤ i → TokOk l i0 (quoF l fr m f i out)
  | 0, i, out, hf, hi, ho => by omega
  | f + 1, i, out, hf, hi, ho => by
    have h2 := txt_ok l out (by omega)
    unfold quoF
    refine tif (fun c => tok_ok _ _ _ _ _ _ _ (by omega) (by omega) h2 (by omega)) fun c0 => ?_
    refine tif (fun c => tok_ok _ _ _ _ _ _ _ (by omega) (by omega) h2 (by omega)) fun c1 => ?_
    refine tif (fun c => tok_ok _ _ _ _ _ _ _ (by omega) (by omega) (Nat.zero_le _) (by omega)) fun c2 => ?_
    refine tif (fun c => quo_ok l i0 fr m h0 f _ _ (by omega) (by omega) (by simp; omega)) fun c3 => ?_
    refine tif (fun c => quo_ok l i0 fr m h0 f _ _ (by omega) (by omega) (by omega)) fun c4 => ?_
    refine tif (fun c => quo_ok l i0 fr m h0 f _ _ (by omega) (by omega) (by omega)) fun c5 => ?_
    have hv := valS_pos l i (by omega)
    exact quo_ok l i0 fr m h0 f _ _ (by omega) (by omega) (by simp; omega)
theorem nm_gt (l : List Int) (i : Int) (h0 : 0 ≤ i) (h : inB l i = true ∨ escB l i = true) : i < (namesS l i).2 := by
  show i < (namesF l (l.length + 1) i []).2
  unfold namesF
  split
  · rename_i hc
    have h1 := inB_lt hc
    have h2 := namesF_pos l l.length (i + 1) ([] ++ [l.getD i.toNat 0]) (by omega) (by simp; omega)
    omega
  · split
    · rename_i hc
      have h1 := valS_pos l i (escB_lt hc)
      have h2 := namesF_pos l l.length (valS l i).2 ([] ++ [(valS l i).1]) (by omega) (by simp; omega)
      omega
    · rename_i h1 h2
      rcases h with h | h
      · exact absurd h h1
      · exact absurd h h2
theorem nm_in (l : List Int) (i : Int) (h : nmB l i = true) : inB l i = true ∨ escB l i = true := by
  unfold nmB at h
  split at h
  · rename_i h1
    left
    unfold isB at h1
    simp only [Bool.and_eq_true, decide_eq_true_eq] at h1
    unfold inB nameB
    rw [h1.2]
    simp [h1.1]
  · rcases (Bool.or_eq_true _ _).mp h with h | h
    · left
      unfold stB at h
      unfold inB nameB
      simp only [Bool.and_eq_true, decide_eq_true_eq] at h
      rw [h.2, Bool.true_or, Bool.true_or, Bool.and_true]
      exact decide_eq_true h.1
    · exact .inr h
theorem cal_ok (l : List Int) (i : Int) (h : nmB l i = true) (hi : 0 ≤ i ∧ i ≤ l.length) : TokOk l i (calS l i) := by
  have h1 := nm_gt l i hi.1 (nm_in l i h)
  have h2 := namesS_pos l i hi
  unfold calS
  split
  · rename_i hc
    have h3 := isB_lt hc
    have h4 := spE_pos l (l.length + 1) ((namesS l i).2 + 1) (by omega)
    unfold calC
    split
    · exact url_ok l i i hi.1 _ _ _ (by omega) (by simp; omega)
    · exact tok_ok _ _ _ _ _ _ _ (by omega) (by omega) h2.2.2 (by omega)
  · exact tok_ok _ _ _ _ _ _ _ (by omega) (by omega) h2.2.2 (by omega)
theorem sgn_ok (l : List Int) (i c : Int) (h : 0 ≤ i ∧ i < l.length) : ∀ r : List (Int × Int), (∀ x ∈ r, x.2 ≠ 10 ∧ x.2 ≠ 12) → TokOk l i (sgnF l i c r)
  | [], hr => by
    have h1 := txt_ok l (cutL l i (i + 1)) (by have := cutL_len l i (i + 1); omega)
    unfold sgnF
    exact tok_ok _ _ _ _ _ _ _ (by omega) (by omega) h1 (by omega)
  | (s, k) :: r, hr => by
    unfold sgnF
    split
    · exact tok_ok _ _ _ _ _ _ _ (by omega) (by omega) (Nat.zero_le _) (hr (s, k) (List.mem_cons_self ..))
    · exact sgn_ok l i c h r fun x hx => hr x (List.mem_cons_of_mem _ hx)
theorem nxtC_ok (l : List Int) (i : Int) (h : 0 ≤ i ∧ i < l.length) : TokOk l i (nxtC l i) := by
  unfold nxtC
  have hq : TokOk l i (quoS l i) := quo_ok l i i _ h.1 _ _ _ (by omega) (by omega) (by simp; omega)
  refine tif (fun hc => ?_) fun c0 => ?_
  · have h1 : spB l i = true := by unfold spB; rw [hc, Bool.and_true]; exact decide_eq_true h.2
    have h2 := spE_pos l l.length (i + 1) (by omega)
    have e : spE l (l.length + 1) i = spE l l.length (i + 1) := by
      show (if spB l i then spE l l.length (i + 1) else i) = _
      rw [if_pos h1]
    rw [e]
    exact tok_ok _ _ _ _ _ _ _ (by omega) (by omega) (Nat.zero_le _) (by omega)
  · refine tif (fun hc => hq) fun c1 => ?_
    refine tif (fun hc => hq) fun c2 => ?_
    refine tif (fun hc => numS_ok l i hc (by omega)) fun c3 => ?_
    refine tif (fun hc => ?_) fun c4 => ?_
    · have := isB_lt hc.2.2
      exact tok_ok _ _ _ _ _ _ _ (by omega) (by omega) (Nat.zero_le _) (by omega)
    refine tif (fun hc => cal_ok l i hc (by omega)) fun c5 => ?_
    refine tif (fun hc => ?_) fun c6 => ?_
    · have := isB_lt hc.2.2.2
      exact tok_ok _ _ _ _ _ _ _ (by omega) (by omega) (Nat.zero_le _) (by omega)
    have h2 := namesS_pos l (i + 1) (by omega)
    refine tif (fun hc => tok_ok _ _ _ _ _ _ _ (by omega) (by omega) h2.2.2 (by omega)) fun c7 => ?_
    refine tif (fun hc => tok_ok _ _ _ _ _ _ _ (by omega) (by omega) h2.2.2 (by omega)) fun c8 => ?_
    exact sgn_ok l i _ h _ (by decide)
theorem nxtS_ok (l : List Int) (a : Int) (h : 0 ≤ a ∧ a ≤ l.length) : TokOk l a (nxtS l a) := by
  have h1 := behE_pos l (l.length + 1) a h.2
  rw [← behS] at h1
  unfold nxtS
  split
  · exact ⟨.inl rfl, Int.le_refl _, Nat.zero_le _, Nat.zero_le _, fun h => by simp at h⟩
  · have h2 := nxtC_ok l (behS l a) (by omega)
    refine ⟨?_, h2.hi, h2.ls, h2.ln, h2.num⟩
    rcases h2.lo with h3 | h3
    · exact .inl h3
    · exact .inr (by omega)
theorem goes (l : List Int) : Goes l := fun a h => by
  have h1 := nxtS_ok l a h
  rcases h1.lo with h2 | h2
  · exact .inl h2
  · exact .inr ⟨h2, h1.hi⟩
structure TokIs (n : Nat) (t : Tok) : Prop where
  ls : t.s.length ≤ n
  ln : t.n.length ≤ n
  num : (t.k = 10 ∨ t.k = 12) → t.w = true → Num t.n
theorem all_is (l : List Int) : ∀ (f : Nat) (a : Int), 0 ≤ a ∧ a ≤ l.length → ∀ t ∈ allF l f a, TokIs (4 * l.length) t
  | 0, a, h, t, ht => absurd ht (List.not_mem_nil)
  | f + 1, a, h, t, ht => by
    have h1 := nxtS_ok l a h
    have h2 : TokIs (4 * l.length) (nxtS l a) := ⟨h1.ls, h1.ln, h1.num⟩
    unfold allF at ht
    split at ht
    · rw [List.mem_singleton.1 ht]; exact h2
    · rename_i hk
      rcases List.mem_cons.1 ht with ht | ht
      · rw [ht]; exact h2
      · rcases h1.lo with h3 | h3
        · exact absurd h3 hk
        · have := h1.hi
          exact all_is l f _ (by omega) t ht
theorem all_len (l : List Int) : ∀ (f : Nat) (a : Int), (allF l f a).length ≤ f
  | 0, a => Nat.le_refl _
  | f + 1, a => by
    unfold allF
    split
    · simp
    · have := all_len l f (nxtS l a).t
      simp only [List.length_cons]; omega
theorem toks_rb (l : List Tok) : V.rb 0 (.sl (toks l) .no) = true := rbs_toks
theorem d_All {l : List Int} (hl : Chs l) (σ : Objs) (hσ : Wf σ) : E cx 30 [.sl (ints l) .no] σ = some (.sl (toks (allS l)) .no, σ) := by
  refine E_any cx_cl ?_ (by rw [rbs_cons, ints_rb]; rfl) (toks_rb _) σ hσ
  have h := d_all0 hl (goes l) (l.length + 1) 0 [] .fx (by omega) (by omega) (.inl rfl) (by simp)
  simp only [List.nil_append] at h
  have h' : l_Z1q_0 (Mi cx) 0 0 [.sl (ints l) .no, .sl [] .fx, .int .i64 0] [] = some (.sl (toks (allS l)) .no, []) := h
  rw [e_Z1q]
  simp +contextual -implicitDefEqProofs (disch := first | assumption | omega | (simp -implicitDefEqProofs only [go_sem]; try omega)) only [↓reduceIte, go_sem, iP, iN, w64, w8, w32, s_Z1q, h']
end Go.Proofs.YtkgkmlhljeidhaaGreatDoor
