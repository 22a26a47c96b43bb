/- Regions that draw their order: whole. -/
import Derived.Test.YtehbeicmmnjpfaaGreatDoorEwF
set_option linter.unusedSimpArgs false
set_option linter.unusedVariables false
namespace Go.Ev
open Go

section
variable {P : Program} {ops : Array Oper} {l : List DS} {dp : List (List Nat)} {G : Nat → V} {call : FuncId → List V → Objs → Option (V × Objs)} {R : Nat → List V} {S : Nat → Objs} {Q : Exit → Act → World → Prop}
variable {X : Nat → Prop} {ρ : List V} {σ : Objs} {w w0 : World} {M M0 : Mem} {ι ι0 : Plc} {κ : Own} {a : Act}

/-- How many are not listed yet. -/
def left (n : Nat) (listed : Array Bool) : Nat := (List.range n).countP fun i => !listed.getD i false

theorem countP_less {p q : Nat → Bool} {i : Nat} : ∀ (xs : List Nat), (∀ x ∈ xs, q x = true → p x = true) → i ∈ xs → p i = true → q i = false → xs.countP q + 1 ≤ xs.countP p
  | [], _, hi, _, _ => by simp at hi
  | x :: xs, h, hi, hp, hq => by
    have hmono : xs.countP q ≤ xs.countP p := List.countP_mono_left fun y hy => h y (List.mem_cons_of_mem _ hy)
    rw [List.countP_cons, List.countP_cons]
    by_cases hx : x = i
    · subst hx
      rw [hp, hq]
      simp
      exact hmono
    · have := countP_less xs (fun y hy => h y (List.mem_cons_of_mem _ hy)) ((List.mem_cons.1 hi).resolve_left (Ne.symm hx)) hp hq
      have hxx := h x (List.mem_cons_self ..)
      cases hqx : q x
      · simp only [Bool.false_eq_true, if_false]; split <;> omega
      · rw [hxx hqx]; simp only [if_true]; omega

theorem place_op (hk : DrwOK P ops l dp) {i : Nat} (hi : i < ops.size) : (dsAt l (place l i)).op = i := by
  have h := hk.all i hi
  have := List.findIdx_getElem (p := fun d : DS => d.op == i) (xs := l) (w := h)
  unfold dsAt
  rw [List.getD, List.getElem?_eq_getElem h]
  exact beq_iff_eq.1 this

/-- The steps that are listed. -/
def isIn (l : List DS) (listed : Array Bool) (p : Nat) : Prop := p < l.length ∧ listed.getD (dsAt l p).op false = true

theorem op_lt (hk : DrwOK P ops l dp) {p : Nat} (hp : p < l.length) : (dsAt l p).op < ops.size := by
  obtain ⟨o, ho, _⟩ := hk.step p hp
  exact (Array.getElem?_eq_some_iff.1 ho).1

theorem place_of (hk : DrwOK P ops l dp) {p : Nat} (hp : p < l.length) : place l (dsAt l p).op = p :=
  hk.inj _ _ (hk.all _ (op_lt hk hp)) hp (place_op hk (op_lt hk hp))

theorem isIn_set (hk : DrwOK P ops l dp) {listed : Array Bool} (hsz : listed.size = ops.size) {p : Nat} (hp : p < l.length) : isIn l (listed.setIfInBounds (dsAt l p).op true) = also (isIn l listed) p := by
  funext q
  apply propext
  unfold isIn also
  constructor
  · rintro ⟨h1, h2⟩
    by_cases hq : q = p
    · exact .inr hq
    · refine .inl ⟨h1, ?_⟩
      rwa [getD_set_ne false (fun e => hq (hk.inj q p h1 hp e.symm))] at h2
  · rintro (⟨h1, h2⟩ | rfl)
    · exact ⟨h1, getD_set_true h2⟩
    · refine ⟨hp, ?_⟩
      have := op_lt hk hp
      simp [Array.getD_eq_getD_getElem?, Array.getElem?_setIfInBounds, hsz, this]

theorem edges_in (hk : DrwOK P ops l dp) {listed : Array Bool} {p : Nat} (hp : p < l.length) {o : Oper} (ho : ops[(dsAt l p).op]? = some o) :
    (∀ q ∈ edges ops l p, isIn l listed q) ↔ ∀ e ∈ o.after, Region.binds .any e = true → listed.getD e.on false = true := by
  have hpl : ∀ e ∈ o.after, Region.binds .any e = true → place l e.on ∈ edges ops l p := fun e he hb => by
    unfold edges
    rw [ho]
    exact List.mem_map.2 ⟨e, List.mem_filter.2 ⟨by simpa using he, hb⟩, rfl⟩
  have hop : ∀ e ∈ o.after, Region.binds .any e = true → place l e.on < l.length ∧ (dsAt l (place l e.on)).op = e.on := fun e he hb => by
    have hlt := hk.edge p hp _ (hpl e he hb)
    have hl : place l e.on < l.length := by omega
    refine ⟨hl, ?_⟩
    have := List.findIdx_getElem (p := fun d : DS => d.op == e.on) (xs := l) (w := hl)
    unfold dsAt
    rw [List.getD, List.getElem?_eq_getElem hl]
    exact beq_iff_eq.1 this
  constructor
  · intro h e he hb
    have := (h _ (hpl e he hb)).2
    rwa [(hop e he hb).2] at this
  · intro h q hq
    unfold edges at hq
    rw [ho] at hq
    obtain ⟨e, he, rfl⟩ := List.mem_map.1 hq
    obtain ⟨he1, he2⟩ := List.mem_filter.1 he
    have he1' : e ∈ o.after := by simpa using he1
    obtain ⟨h1, h2⟩ := hop e he1' he2
    exact ⟨h1, by rw [h2]; exact h e he1' he2⟩

theorem wpAny_drw (hk : DrwOK P ops l dp) (hc : Canon G call l R S) (hS : ∀ f, Sound P G f (call f)) (hG0 : GOK G M0 ι0) {df : List Deferred}
    (hQ : ∀ a' w' M' ι' κ', a'.defers = df → Ext X M0 ι0 w0 M' ι' w' → Kp ι0 w0 (S 0) ι' w' (S l.length) → St M' ι' X κ' w' a'.tmps.toList (R l.length) (S l.length) → Q .normal a' w') :
    ∀ (fuel : Nat) (listed : Array Bool) (a : Act) (c : Nat) (ρ : List V) (w : World) (M : Mem) (ι : Plc) (κ : Own) (rs : Nat → Option Nat), listed.size = ops.size → left ops.size listed ≤ fuel → a.defers = df →
      Inv G l dp R S X (isIn l listed) c a.tmps.toList ρ w M ι κ rs → Acc G l R S X (isIn l listed) c M0 ι0 w0 M ι w → (c < l.length → dly (dsAt l c).s.ins = false) → wpAny P .any ops Q fuel listed a w := by
  -- at the end
  have done : ∀ (listed : Array Bool) (a : Act) (c : Nat) (ρ : List V) (w : World) (M : Mem) (ι : Plc) (κ : Own) (rs : Nat → Option Nat), a.defers = df → (∀ p, p < l.length → isIn l listed p) →
      Inv G l dp R S X (isIn l listed) c a.tmps.toList ρ w M ι κ rs → Acc G l R S X (isIn l listed) c M0 ι0 w0 M ι w → (c < l.length → dly (dsAt l c).s.ins = false) → Q .normal a w := by
    intro listed a c ρ w M ι κ rs hdf hall h hA hce
    have hcn : c = l.length := by
      rcases Nat.lt_or_ge c l.length with hlt | hge
      · have := h.lt c (hall c hlt); omega
      · have := h.cn; omega
    subst hcn
    have hρ : ρ = R l.length := List.ext_getElem? fun t => h.slot.2 t l.length (Nat.le_refl _) (fun q hq _ => hall q hq) (fun q h1 h2 _ => by omega)
    subst hρ
    exact hQ a w M ι κ hdf hA.ext hA.kp (h.st.lessX fun b hb => .inl hb)
  intro fuel
  induction fuel with
  | zero =>
    intro listed a c ρ w M ι κ rs hsz hleft hdf h hA hce
    have hall' : ∀ i, i < ops.size → listed.getD i false = true := fun i hi => by
      have h0 : (List.range ops.size).countP (fun i => !listed.getD i false) = 0 := by unfold left at hleft; omega
      have := List.countP_eq_zero.1 h0 i (List.mem_range.2 hi)
      simpa using this
    have hall : ∀ p, p < l.length → isIn l listed p := fun p hp => ⟨hp, hall' _ (op_lt hk hp)⟩
    refine ⟨?_, done listed a c ρ w M ι κ rs hdf hall h hA hce⟩
    cases hrd : Region.ready .any ops listed with
    | nil => rfl
    | cons i r =>
      have hm : i ∈ Region.ready .any ops listed := by rw [hrd]; exact List.mem_cons_self ..
      obtain ⟨h1, o, ho, _⟩ := mem_ready.1 hm
      have hi := (Array.getElem?_eq_some_iff.1 ho).1
      have h2 := hall' i hi
      have hil : i < listed.size := by omega
      simp [Array.getD, hil] at h1 h2
      rw [h1] at h2; cases h2
  | succ fuel ih =>
    intro listed a c ρ w M ι κ rs hsz hleft hdf h hA hce
    have notIn : ∀ {p}, p < l.length → ¬ isIn l listed p → listed.getD (dsAt l p).op true = false := fun {p} hp hn => by
      have hil : (dsAt l p).op < listed.size := by have := op_lt hk hp; omega
      have : ¬ listed.getD (dsAt l p).op false = true := fun e => hn ⟨hp, e⟩
      simp [Array.getD, hil] at this ⊢
      exact this
    refine ⟨fun h0 => ?_, fun i hi => ?_⟩
    · refine done listed a c ρ w M ι κ rs hdf (fun p => ?_) h hA hce
      induction p using Nat.strongRecOn with
      | _ p ihp =>
        intro hp
        refine Classical.byContradiction fun hn => ?_
        obtain ⟨o, ho, _⟩ := hk.step p hp
        have he := (edges_in hk (listed := listed) hp ho).1 (fun q hq => ihp q (hk.edge p hp q hq) (by have := hk.edge p hp q hq; omega))
        have : (dsAt l p).op ∈ Region.ready .any ops listed := mem_ready.2 ⟨notIn hp hn, o, ho, he⟩
        rw [h0] at this
        cases this
    · obtain ⟨h1, o, ho, h2⟩ := mem_ready.1 hi
      have hio := (Array.getElem?_eq_some_iff.1 ho).1
      have hpl := hk.all i hio
      have hop := place_op hk hio
      generalize place l i = p at hpl hop
      subst hop
      have hn : ¬ isIn l listed p := fun e => by
        have hil : (dsAt l p).op < listed.size := by omega
        have e2 := e.2
        simp [Array.getD, hil] at h1 e2
        rw [h1] at e2; cases e2
      have hd : ∀ q ∈ dp.getD p [], isIn l listed q := deps_in hk (L := isIn l listed) (fun q hq hql r hr => h.cl.dep q hq r (hk.sub q hql r hr)) p hpl ((edges_in hk hpl ho).2 h2)
      have hset := isIn_set hk hsz hpl
      have hsz' : (listed.setIfInBounds (dsAt l p).op true).size = ops.size := by rw [Array.size_setIfInBounds]; exact hsz
      have hleft' : left ops.size (listed.setIfInBounds (dsAt l p).op true) ≤ fuel := by
        have : left ops.size (listed.setIfInBounds (dsAt l p).op true) + 1 ≤ left ops.size listed := by
          unfold left
          refine countP_less (i := (dsAt l p).op) _ (fun x _ hx => ?_) (List.mem_range.2 hio) ?_ ?_
          · cases hxl : listed.getD x false
            · rfl
            · rw [getD_set_true hxl] at hx; cases hx
          · have : ¬ listed.getD (dsAt l p).op false = true := fun e => hn ⟨hpl, e⟩
            simpa using this
          · have := congrFun hset p
            have hin : isIn l (listed.setIfInBounds (dsAt l p).op true) p := by rw [this]; exact .inr rfl
            rw [hin.2]; rfl
        omega
      have hGc : GOK G M ι := hG0.mono hA.ext.m hA.ext.i
      have next : ∀ a' w' M' ι' κ' ρ', a'.defers = a.defers → Ext (XR X (isIn l listed) c rs) M ι w M' ι' w' → (∀ o, o < (S c).length → rdAt G l R S p ≠ .made o → ι' o = ι o) → HK ι w w' → pend (isIn l listed) c p →
          Inv G l dp R S X (also (isIn l listed) p) c a'.tmps.toList ρ' w' M' ι' κ' rs → wpAny P .any ops Q fuel (listed.setIfInBounds (dsAt l p).op true) a' w' := by
        intro a' w' M' ι' κ' ρ' hdf' hx hdom hh hp' hinv
        have hA' := hA.ran hp' hx hdom hh
        rw [← hset] at hinv hA'
        exact ih _ a' c ρ' w' M' ι' κ' rs hsz' hleft' (hdf'.trans hdf) hinv hA' hce
      rcases Nat.lt_trichotomy p c with hpc | hpc | hpc
      · have hp : pend (isIn l listed) c p := ⟨hpc, hn⟩
        have hdl : dly (dsAt l p).s.ins = true := by
          cases hq : dly (dsAt l p).s.ins with
          | true => rfl
          | false => exact absurd (h.eff p hpc hq) hn
        have hcase := late_case hk hc hpl hdl
        cases hcase with
        | none g1 g2 => exact h.exec_same hk hc hGc hp hd hdl g1 (fun o off e => by rw [g2] at e; cases e) (fun o e => by rw [g2] at e; cases e) (fun a' w' M' ι' κ' ρ' q1 q2 q3 q4 q5 => next a' w' M' ι' κ' ρ' q1 q2 q3 q4 hp q5)
        | same ex o off n g1 g2 => exact h.exec_same hk hc hGc hp hd hdl g1 (fun o off e => by rw [g2] at e; cases e) (fun o e => by rw [g2] at e; cases e) (fun a' w' M' ι' κ' ρ' q1 q2 q3 q4 q5 => next a' w' M' ι' κ' ρ' q1 q2 q3 q4 hp q5)
        | took o off cs xs s g1 g2 g3 g4 => exact h.exec_took hk hc hGc hp hd hdl g4 (fun a' w' M' ι' κ' ρ' q1 q2 q3 q4 q5 => next a' w' M' ι' κ' ρ' q1 q2 q3 q4 hp q5)
        | made cs g1 g2 => exact h.exec_made hk hc hGc hp hd hdl g2 (fun a' w' M' ι' κ' ρ' q1 q2 q3 q4 q5 => next a' w' M' ι' κ' ρ' q1 q2 q3 q4 hp q5)
      · subst hpc
        refine h.effect hk hc hGc hS hA hpl hd (hce hpl) fun a' w' M' ι' κ' ρ' hdf' hinv hA' => ?_
        obtain ⟨c', κ'', rs', hinv', hA'', hce'⟩ := adv hk hc _ _ _ _ rfl hinv hA'
        rw [← hset] at hinv' hA''
        exact ih _ a' c' ρ' w' M' ι' κ'' rs' hsz' hleft' (hdf'.trans hdf) hinv' hA'' hce'
      · exfalso
        have hcl : c < l.length := by omega
        rcases hk.pair p hpl c hpc with hm | ⟨_, hm, _⟩
        · have := h.lt c (hd c hm); omega
        · rw [hce hcl] at hm; cases hm
end
end Go.Ev
