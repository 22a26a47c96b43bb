/- Part of a proof: the small language, and functions of the program on it. -/
import Derived.Test.YtenicbbhihbkcaaGreatDoorTyC1b
import Derived.Laws.Sem
import Derived.Attr
import Derived.ChangeSlices
import Derived.ChangeArms
import Derived.DataReads
import Derived.Test.YtenicbbhihbkcaaGreatDoorChecked
set_option linter.unusedSimpArgs false
set_option linter.unusedVariables false
namespace Go.Ev
open Go
section
variable {M M' : Mem} {ι ι' ι0 : Plc} {X : Nat → Prop} {κ : Own} {w : World} {us : List Value} {ρ : List V} {σ : Objs} {n : Nat}
def Fz1 (M : Mem) (ι : Plc) (M' : Mem) (ι' : Plc) (x y : V) : Prop := y = .any ∨ Fz M ι M' ι' x y
theorem fzO_cells (hsame : ∀ x, V.rb n x = true → Fz M ι M' ι' x x) (hg : ∀ x y, fz n σ fzD x = some y → Fz M ι M' ι' x y) {cs : List V} {O' : O} (h : fzO n σ (.cells cs) = some O') :
    ∃ ds, O' = .cells ds ∧ ds.length = cs.length ∧ ∀ (i : Nat) c d, cs[i]? = some c → ds[i]? = some d → Fz M ι M' ι' c d := by
  simp only [fzO] at h
  split at h
  · rename_i hrb
    cases h
    exact ⟨cs, rfl, rfl, fun i c d hc hd => by rw [hc] at hd; cases hd; exact hsame c (rbs_get hrb hc)⟩
  · rw [Option.map_eq_some_iff] at h
    obtain ⟨ds, hds, rfl⟩ := h
    obtain ⟨h1, h2⟩ := mapM_some hds
    exact ⟨ds, rfl, h1, fun i c d hc hd => hg c d (h2 i c d hc hd)⟩
theorem goneAt_get : ∀ (ks : List Nat) (σ : Objs) (o : Nat), (goneAt ks σ)[o]? = if o ∈ ks ∧ o < σ.length then some .gone else σ[o]?
  | [], σ, o => by simp [goneAt]
  | k :: ks, σ, o => by
    show (goneAt ks (σ.set k .gone))[o]? = _
    rw [goneAt_get ks, List.length_set, List.getElem?_set]
    by_cases h1 : o ∈ ks ∧ o < σ.length
    · rw [if_pos h1, if_pos ⟨List.mem_cons_of_mem _ h1.1, h1.2⟩]
    · rw [if_neg h1]
      by_cases h2 : k = o
      · subst h2
        by_cases h3 : k < σ.length
        · simp [h3]
        · simp [h3]
      · have h4 : ¬ (o ∈ k :: ks ∧ o < σ.length) := fun ⟨g1, g2⟩ => h1 ⟨by
          rcases List.mem_cons.1 g1 with e | e
          · exact absurd e.symm h2
          · exact e, g2⟩
        rw [if_neg h2, if_neg h4]
theorem goneAt_len : ∀ (ks : List Nat) (σ : Objs), (goneAt ks σ).length = σ.length
  | [], σ => rfl
  | k :: ks, σ => by
    show (goneAt ks (σ.set k .gone)).length = _
    rw [goneAt_len ks, List.length_set]
theorem St.goneAll : ∀ (ks : List Nat) {σ : Objs}, St M ι X κ w us ρ σ → St M ι X κ w us ρ (goneAt ks σ)
  | [], σ, h => h
  | k :: ks, σ, h => St.goneAll ks (h.goneO k).1
theorem ownB_any {v : Value} : ownB v .any = none := by unfold ownB; split <;> first | rfl | (rename_i h; cases h)
def srcK (n : Nat) (ks : List Nat) (o : Nat) : Nat := if o < n then o else ks.getD (o - n) 0
open Classical in
noncomputable def cutM (M : Mem) (ι : Plc) (w : World) (σ : Objs) (n : Nat) (ks : List Nat) : Mem := fun b i => if ∃ o, n ≤ o ∧ o ∉ ks ∧ ι o = some b ∧ ∃ cs, σ[o]? = some (.cells cs) then w.cell? ⟨b, i, none⟩ else M b i
def cutA (ι : Plc) (n : Nat) (ks : List Nat) (o : Nat) : Option Nat := if o < n + ks.length then ι (srcK n ks o) else none
open Classical in
noncomputable def cutI (ι : Plc) (n : Nat) (ks : List Nat) : Plc := ⟨cutA ι n ks, fun c => if ∃ o, cutA ι n ks o = some c then ι.sz c else none⟩
open Classical in
theorem cutI_inv {ks : List Nat} {c k : Nat} (hz : (cutI ι n ks).sz c = some k) : (∃ o, cutI ι n ks o = some c) ∧ ι.sz c = some k := by
  have hz' : (if ∃ o, cutA ι n ks o = some c then ι.sz c else none) = some k := hz
  split at hz'
  · rename_i hex; exact ⟨hex, hz'⟩
  · cases hz'
theorem cutI_at {ks : List Nat} {o : Nat} : cutI ι n ks o = if o < n + ks.length then ι (srcK n ks o) else none := rfl
theorem cutI_lt {ks : List Nat} {o : Nat} (h : o < n) : cutI ι n ks o = ι o := by
  rw [cutI_at, if_pos (by omega)]; unfold srcK; rw [if_pos h]
open Classical in
theorem cutI_sz {ks : List Nat} {c k o : Nat} (h : cutI ι n ks o = some c) (hz : ι.sz c = some k) : (cutI ι n ks).sz c = some k := by
  show (if ∃ o, cutA ι n ks o = some c then ι.sz c else none) = _
  rw [if_pos ⟨o, h⟩, hz]
theorem ren_at {ks : List Nat} {o : Nat} (h : o < n ∨ o ∈ ks ∧ n ≤ o) : cutI ι n ks (ren n ks o) = ι o := by
  unfold ren
  rcases h with h | ⟨h, hn⟩
  · rw [if_pos h, cutI_lt h]
  · have hi := List.idxOf_lt_length_of_mem h
    rw [if_neg (by omega), cutI_at, if_pos (by omega)]
    unfold srcK
    rw [if_neg (by omega), Nat.add_sub_cancel_left, List.getD_eq_getElem?_getD, List.getElem?_eq_getElem hi, Option.getD_some, List.getElem_idxOf]
def Pl.ren (n : Nat) (ks : List Nat) : Pl → Pl
  | .c q i => .c (Ev.ren n ks q) i
  | p => p
theorem ren_src {ks : List Nat} (hnd : ks.Nodup) (hge : ∀ k ∈ ks, n ≤ k) {o : Nat} (h : o < n + ks.length) : ren n ks (srcK n ks o) = o ∧ (n ≤ o → srcK n ks o ∈ ks) := by
  unfold srcK
  by_cases ho : o < n
  · rw [if_pos ho]; unfold ren; rw [if_pos ho]; exact ⟨rfl, fun h => by omega⟩
  · have hlt : o - n < ks.length := by omega
    rw [if_neg ho, List.getD_eq_getElem?_getD, List.getElem?_eq_getElem hlt, Option.getD_some]
    have hm := List.getElem_mem hlt
    unfold ren
    rw [if_neg (by have := hge _ hm; omega), hnd.idxOf_getElem]
    exact ⟨by omega, fun _ => hm⟩
theorem esc_ok {ks : List Nat} {σg : Objs} (hge : ∀ k ∈ ks, n ≤ k) (hg : ∀ x y, fz n σg fzD x = some y → Fz M ι M' (cutI ι n ks) x y) {x y : V} (h : escOne n ks σg x = some y) : Fz M ι M' (cutI ι n ks) x y := by
  have single : ∀ {x y : V}, x.cells = [x] → y.cells = [y] → (∀ v, Rep M ι v x → Rep M' (cutI ι n ks) v y) → (∀ v, ownB v y = ownB v x) → y.one = x.one → y.isLk = x.isLk → (∀ ys c, y ≠ .sl ys c) → Fz M ι M' (cutI ι n ks) x y := fun {x y} hx hy hr ho h1 hk hs =>
    ⟨hr, by rw [hx, hy]; rfl, fun us hus => by
      rw [hx] at hus; rw [hy]
      refine ⟨hus.1, fun i u c hu hcc => ?_⟩
      cases i with
      | zero => simp at hcc; subst hcc; exact hr u (hus.2 0 u x hu rfl)
      | succ i => simp at hcc, ho, h1, hk, fun ys c e => absurd e (hs ys c)⟩
  have ok : ∀ {o : Nat}, (decide (o < n) || ks.contains o) = true → o < n ∨ o ∈ ks ∧ n ≤ o := fun {o} ho => by
    simp only [Bool.or_eq_true, decide_eq_true_eq, List.contains_iff_mem] at ho
    rcases ho with ho | ho
    · exact .inl ho
    · exact .inr ⟨ho, hge o ho⟩
  unfold escOne at h
  split at h
  · rename_i o off
    split at h
    · rename_i hc
      cases h
      refine single rfl rfl (fun v hv => ?_) (fun v => by unfold ownB; split <;> simp_all) rfl rfl (fun ys c e => by cases e)
      obtain ⟨b, rfl, hi⟩ := hv.inv_ptr
      exact .ptr _ _ b (by rw [ren_at (ok hc)]; exact hi)
    · exact hg _ _ h
  · rename_i o off len sz ag
    split at h
    · rename_i hc
      cases h
      refine single rfl rfl (fun v hv => ?_) (fun v => by unfold ownB; split <;> simp_all) rfl rfl (fun ys c e => by cases e)
      obtain ⟨b, cap, rfl, hi, hlc⟩ := hv.inv_hs
      exact .hs _ _ _ _ _ b cap (by rw [ren_at (ok hc)]; exact hi) hlc
    · exact hg _ _ h
  · rename_i o len sz ag
    split at h
    · rename_i hc
      cases h
      refine single rfl rfl (fun v hv => ?_) (fun v => by unfold ownB; split <;> simp_all) rfl rfl (fun ys c e => by cases e)
      cases hv with
      | hg _ _ _ _ b cap k hi hz hlc hr =>
        have hi' : cutI ι n ks (ren n ks o) = some b := by rw [ren_at (ok hc)]; exact hi
        exact .hg _ _ _ _ b cap k hi' (cutI_sz hi' hz) hlc hr
    · exact hg _ _ h
  · rename_i o
    split at h
    · rename_i hc
      cases h
      refine single rfl rfl (fun v hv => ?_) (fun v => by unfold ownB; split <;> simp_all) rfl rfl (fun ys c e => by cases e)
      obtain ⟨b, rfl, hi⟩ := hv.inv_mp
      exact .mp _ b (by rw [ren_at (ok hc)]; exact hi)
    · cases h
  · exact hg _ _ h
theorem escV_ok {ks : List Nat} {σg : Objs} (hge : ∀ k ∈ ks, n ≤ k) (hg : ∀ x y, fz n σg fzD x = some y → Fz M ι M' (cutI ι n ks) x y) {x y : V} (h : escV n ks σg x = some y) : Fz M ι M' (cutI ι n ks) x y := by
  unfold escV at h
  split at h
  · rename_i cs
    rw [Option.map_eq_some_iff] at h
    obtain ⟨ds, hds, rfl⟩ := h
    have hl := fun us hus => fz_list (fun x y hxy => esc_ok hge hg hxy) hds (us := us) hus
    refine ⟨fun v hv => ?_, (mapM_some hds).1, hl, fun v => by unfold ownB; split <;> simp_all, rfl, rfl, fun ys c e _ => by cases e⟩
    cases hv with
    | agg vs _ hl' hr => exact Rep.agg_iff.2 (hl _ (Rep.agg_iff.1 (.agg vs cs hl' hr)))
  · rename_i cs
    rw [Option.map_eq_some_iff] at h
    obtain ⟨ds, hds, rfl⟩ := h
    have hr : ∀ v, Rep M ι v (.tup cs) → Rep M' (cutI ι n ks) v (.tup ds) := fun v hv => by
      cases hv with
      | tup vs _ hl hr =>
        have hr3 := fz_list (fun x y hxy => esc_ok hge hg hxy) hds (us := vs.toList) ⟨by simpa using hl, fun i u x hu hx => hr i u x (by simpa using hu) hx⟩
        exact .tup vs ds (by simpa using hr3.1) (fun i u x hu hx => hr3.2 i u x (by simpa using hu) hx)
    refine ⟨hr, rfl, fun us hus => ⟨hus.1, fun i u c hu hcc => ?_⟩, fun v => by unfold ownB; split <;> simp_all, rfl, rfl, fun ys c e _ => by cases e⟩
    cases i with
    | zero => simp [V.cells] at hcc; subst hcc; exact hr u (hus.2 0 u (.tup cs) hu rfl)
    | succ i => simp [V.cells] at hcc
  · exact esc_ok hge hg h
theorem St.keep (h : St M ι X κ w us ρ σ) (hn : n ≤ σ.length) {ks : List Nat} (hnd : ks.Nodup) (hge : ∀ k ∈ ks, n ≤ k) {ρ' : List V} {σ' : Objs} (hl : ρ'.length = ρ.length)
    (hsl : ∀ (j : Nat) x y, ρ[j]? = some x → ρ'[j]? = some y → y = .any ∨ fz n (goneAt ks σ) fzD x = some y ∨ escV n ks (goneAt ks σ) x = some y) (ho : keepObjs n σ ks = some σ') :
    ∃ κ', MemLe M (cutM M ι w σ n ks) ∧ (∀ b i, X b → cutM M ι w σ n ks b i = M b i) ∧ St (cutM M ι w σ n ks) (cutI ι n ks) X κ' w us ρ' σ' ∧ (∀ o i, o < n → lkAt σ' o i → lkAt σ o i) ∧ n ≤ σ'.length := by
  have hgo := h.goneAll ks
  have hm : MemLe M (cutM M ι w σ n ks) := ⟨fun b i u hu => by
    unfold cutM
    split
    · exact h.wd.mem b i u hu
    · exact hu⟩
  have hi : ∀ o b, o < n → ι o = some b → cutI ι n ks o = some b ∧ ∀ k, ι.sz b = some k → (cutI ι n ks).sz b = some k := fun o b hlt e => by
    have : cutI ι n ks o = some b := by rw [cutI_lt hlt]; exact e
    exact ⟨this, fun k hk => cutI_sz this hk⟩
  have hgc : ∀ o cs, (goneAt ks σ)[o]? = some (O.cells cs) → o ∉ ks ∧ σ[o]? = some (O.cells cs) := fun o cs ho => by
    rw [goneAt_get] at ho
    split at ho
    · cases ho
    · rename_i hnk
      exact ⟨fun hk => hnk ⟨hk, (List.getElem?_eq_some_iff.1 ho).1⟩, ho⟩
  have hfz : ∀ f x y, fz n (goneAt ks σ) f x = some y → Fz M ι (cutM M ι w σ n ks) (cutI ι n ks) x y := fz_ok hgo.wd hm hi (fun o b hno hb hcs i u hu => by
    obtain ⟨cs, hcs⟩ := hcs
    unfold cutM
    rw [if_pos ⟨o, hno, (hgc o cs hcs).1, hb, cs, (hgc o cs hcs).2⟩]; exact hu)
  have hg := hfz fzD
  have hsame : ∀ x, V.rb n x = true → Fz M ι (cutM M ι w σ n ks) (cutI ι n ks) x x := fun x hx => hfz 0 x x (by simp [fz, hx])
  have hX : ∀ b i, (∀ o cs, n ≤ o → o ∉ ks → ι o = some b → σ[o]? ≠ some (.cells cs)) → cutM M ι w σ n ks b i = M b i := fun b i hn => by
    unfold cutM
    rw [if_neg (fun ⟨o, h1, h2, h3, cs, h4⟩ => hn o cs h1 h2 h3 h4)]
  have hsl' : ∀ (j : Nat) x y, ρ[j]? = some x → ρ'[j]? = some y → Fz1 M ι (cutM M ι w σ n ks) (cutI ι n ks) x y := fun j x y hx hy => by
    rcases hsl j x y hx hy with e | e | e
    · exact .inl e
    · exact .inr (hg _ _ e)
    · exact .inr (escV_ok hge hg e)
  unfold keepObjs at ho
  simp only [Option.bind_eq_bind, Option.bind_eq_some_iff, Option.some.injEq] at ho
  obtain ⟨os, hos, base, hbase, rfl⟩ := ho
  unfold cuO at hbase
  obtain ⟨hbl, hbg⟩ := mapM_some hbase
  obtain ⟨hol, hog⟩ := mapM_some hos
  have hbn : base.length = n := by rw [hbl, List.length_take, goneAt_len]; omega
  have hobj : ∀ {o : Nat} {B : O}, (base ++ os)[o]? = some B → o < n + ks.length ∧ ∃ A, σ[srcK n ks o]? = some A ∧ ((o < n ∧ fzO n (goneAt ks σ) A = some B) ∨ (n ≤ o ∧ keepOne n ks (goneAt ks σ) A = some B)) := fun {o B} hB => by
    have hlt0 := (List.getElem?_eq_some_iff.1 hB).1
    rw [List.length_append, hbn, hol] at hlt0
    refine ⟨hlt0, ?_⟩
    rw [List.getElem?_append] at hB
    split at hB
    · rename_i hlt
      rw [hbn] at hlt
      have hlt2 : o < ((goneAt ks σ).take n).length := by rw [List.length_take, goneAt_len]; omega
      have hget := List.getElem?_eq_getElem hlt2
      have hf := hbg o _ _ hget hB
      rw [List.getElem?_take, if_pos hlt, goneAt_get, if_neg (fun hk => by have := hge _ hk.1; omega)] at hget
      refine ⟨_, ?_, .inl ⟨hlt, hf⟩⟩
      unfold srcK
      rw [if_pos hlt]; exact hget
    · rename_i hge'
      rw [hbn] at hge' hB
      have hlt2 : o - n < ks.length := by omega
      have hf := hog (o - n) _ _ (List.getElem?_eq_getElem hlt2) hB
      rw [Option.bind_eq_some_iff] at hf
      obtain ⟨A, hA, hk⟩ := hf
      refine ⟨A, ?_, .inr ⟨by omega, hk⟩⟩
      unfold srcK
      rw [if_neg hge', List.getD_eq_getElem?_getD, List.getElem?_eq_getElem hlt2, Option.getD_some]
      exact hA
  have hcells : ∀ {o : Nat} {cs : List V} {B : O}, σ[srcK n ks o]? = some (.cells cs) → ((o < n ∧ fzO n (goneAt ks σ) (.cells cs) = some B) ∨ (n ≤ o ∧ keepOne n ks (goneAt ks σ) (.cells cs) = some B)) → ∃ ds, B = .cells ds ∧ ds.length = cs.length ∧ ∀ (i : Nat) c d, cs[i]? = some c → ds[i]? = some d → Fz M ι (cutM M ι w σ n ks) (cutI ι n ks) c d := fun {o cs B} _ hf => by
    rcases hf with ⟨_, hf⟩ | ⟨_, hf⟩
    · exact fzO_cells hsame hg hf
    · simp only [keepOne, Option.map_eq_some_iff] at hf
      obtain ⟨ds, hds, rfl⟩ := hf
      obtain ⟨h1, h2⟩ := mapM_some hds
      exact ⟨ds, rfl, h1, fun i c d hc hd => esc_ok hge hg (h2 i c d hc hd)⟩
  have hcell2 : ∀ {o : Nat} {ds : List V}, (base ++ os)[o]? = some (.cells ds) → ∃ cs, o < n + ks.length ∧ σ[srcK n ks o]? = some (.cells cs) ∧ ds.length = cs.length ∧ ∀ (i : Nat) c d, cs[i]? = some c → ds[i]? = some d → Fz M ι (cutM M ι w σ n ks) (cutI ι n ks) c d := fun {o ds} hd => by
    obtain ⟨hlt, A, hA, hf⟩ := hobj hd
    cases A with
    | cells cs =>
      obtain ⟨ds', he, q1, q2⟩ := hcells hA hf
      cases he
      exact ⟨cs, hlt, hA, q1, q2⟩
    | mp es =>
      rcases hf with ⟨_, hf⟩ | ⟨_, hf⟩
      · simp only [fzO] at hf; split at hf <;> cases hf
      · simp only [keepOne, Option.map_eq_some_iff] at hf
        obtain ⟨_, _, he⟩ := hf
        cases he
    | si r pos => rcases hf with ⟨_, hf⟩ | ⟨_, hf⟩ <;> cases hf
    | gone => rcases hf with ⟨_, hf⟩ | ⟨_, hf⟩ <;> cases hf
  have hback : ∀ o b, cutI ι n ks o = some b → o < n + ks.length ∧ ι (srcK n ks o) = some b := fun o b e => by
    rw [cutI_at] at e
    split at e
    · exact ⟨by assumption, e⟩
    · cases e
  have hnot : ∀ o, o < n + ks.length → ¬ (n ≤ srcK n ks o ∧ srcK n ks o ∉ ks) := fun o hlt ⟨g1, g2⟩ => by
    by_cases hon : o < n
    · unfold srcK at g1; rw [if_pos hon] at g1; omega
    · exact g2 ((ren_src hnd hge hlt).2 (by omega))
  have key : ∀ p v y, At (cutI ι n ks) w us ρ' (base ++ os) p v y → ∃ x p', At ι w us ρ σ p' v x ∧ Fz1 M ι (cutM M ι w σ n ks) (cutI ι n ks) x y ∧ p = p'.ren n ks := by
    intro p v y ha
    cases p with
    | s i =>
      obtain ⟨q1, q2⟩ := ha
      have hlt : i < ρ.length := by rw [← hl]; exact (List.getElem?_eq_some_iff.1 q2).1
      exact ⟨ρ[i], .s i, ⟨q1, List.getElem?_eq_getElem hlt⟩, hsl' i _ _ (List.getElem?_eq_getElem hlt) q2, rfl⟩
    | c o i =>
      obtain ⟨b, ws, T, fzz, ds, q1, q2, q3, q4, q5⟩ := ha
      obtain ⟨cs, r0, r1, r2, r3⟩ := hcell2 q3
      have hlt : i < cs.length := by rw [← r2]; exact (List.getElem?_eq_some_iff.1 q5).1
      exact ⟨cs[i], .c (srcK n ks o) i, ⟨b, ws, T, fzz, cs, (hback o b q1).2, q2, r1, q4, List.getElem?_eq_getElem hlt⟩, .inr (r3 i _ _ (List.getElem?_eq_getElem hlt) q5), by
        show Pl.c o i = .c (ren n ks (srcK n ks o)) i
        rw [(ren_src hnd hge r0).1]⟩
  have hlive : ∀ o b, cutI ι n ks o = some b → (base ++ os)[o]? ≠ some .gone → σ[srcK n ks o]? ≠ some .gone := fun o b hb hl0 e => by
    obtain ⟨hlt, hb'⟩ := hback o b hb
    have hlt2 : o < (base ++ os).length := by rw [List.length_append, hbn, hol]; exact hlt
    obtain ⟨_, A, hA, hf⟩ := hobj (List.getElem?_eq_getElem hlt2)
    rw [e] at hA; cases hA
    rcases hf with ⟨_, hf⟩ | ⟨_, hf⟩
    · simp only [fzO, Option.some.injEq] at hf
      exact hl0 (by rw [List.getElem?_eq_getElem hlt2, ← hf])
    · cases hf
  refine ⟨fun b => (κ b).map (Pl.ren n ks), hm, fun b i hb => hX b i fun o cs _ _ e => absurd hb (h.wd.xobj o b e),
    ⟨⟨fun b i u hu => ?_, fun o b hb => ?_, fun o b hb => h.wd.olt _ b (hback o b hb).2, fun o o' b hb hb' g1 g2 => ?_, h.wd.xlt, fun o b hb => h.wd.xobj _ b (hback o b hb).2, fun b p hp => ?_, fun c k hz => ?_⟩, ⟨by rw [hl]; exact h.rep.1, fun i u y hu hy => ?_⟩, fun p v y b ha hb => ?_, fun p v y ha => ?_⟩, fun o i hon hlk => ?_, by rw [List.length_append, hbn]; omega⟩
  · unfold cutM at hu
    split at hu
    · exact hu
    · exact h.wd.mem b i u hu
  · obtain ⟨hlt, hb'⟩ := hback o b hb
    have hlt2 : o < (base ++ os).length := by rw [List.length_append, hbn, hol]; exact hlt
    have hB := List.getElem?_eq_getElem hlt2
    obtain ⟨_, A, hA, hf⟩ := hobj hB
    refine ⟨_, hB, ?_⟩
    generalize (base ++ os)[o] = B at hf
    obtain ⟨A2, hA2, hor⟩ := h.wd.obj _ b hb'
    rw [hA] at hA2; cases hA2
    cases A with
    | cells cs =>
      obtain ⟨ds, rfl, q1, q2⟩ := hcells hA hf
      obtain ⟨ws, T, fzz, r1, r2, r3, r4, r5⟩ := hor
      have hMb : ∀ i, cutM M ι w σ n ks b i = M b i := fun i => hX b i fun o' cs' hge' hnk e hcs' => by
        have he := h.wd.inj _ o' b hb' e (by rw [hA]; simp) (by rw [hcs']; simp)
        exact hnot o hlt (by rw [he]; exact ⟨hge', hnk⟩)
      refine ⟨ws, T, fzz, r1, ⟨by rw [q1]; exact r2.1, fun i u d hu hd => ?_⟩, fun i hi => r3 i (by omega), fun i => by rw [hMb]; exact r4 i, fun d hd => ?_⟩
      · rw [q1] at hu
        obtain ⟨c, hc, hrc⟩ := r2.get' hu
        exact (q2 i c d hc hd).rep u hrc
      · obtain ⟨i, hi⟩ := List.mem_iff_getElem?.1 hd
        have hlt3 : i < cs.length := by rw [← q1]; exact (List.getElem?_eq_some_iff.1 hi).1
        rw [(q2 i _ d (List.getElem?_eq_getElem hlt3) hi).one]
        exact r5 _ (List.getElem_mem hlt3)
    | mp es =>
      obtain ⟨en, clock, r1, r2, r3⟩ := hor
      rcases hf with ⟨_, hf⟩ | ⟨_, hf⟩
      · simp only [fzO] at hf
        split at hf
        · rename_i hrb
          simp only [Bool.and_eq_true] at hrb
          cases hf
          refine ⟨en, clock, r1, r2, fun i e p he hp => ?_⟩
          obtain ⟨s1, s2⟩ := r3 i e p he hp
          have hp' := List.mem_of_getElem? hp
          exact ⟨(hsame _ (rbs_all.1 hrb.1 _ (List.mem_map.2 ⟨p, hp', rfl⟩))).rep _ s1, (hsame _ (rbs_all.1 hrb.2 _ (List.mem_map.2 ⟨p, hp', rfl⟩))).rep _ s2⟩
        · cases hf
      · simp only [keepOne, Option.map_eq_some_iff] at hf
        obtain ⟨es', hes, rfl⟩ := hf
        obtain ⟨k1, k2⟩ := mapM_some hes
        refine ⟨en, clock, r1, by rw [r2, k1], fun i e p he hp => ?_⟩
        have hlt3 : i < es.length := by rw [← k1]; exact (List.getElem?_eq_some_iff.1 hp).1
        have hq := k2 i _ p (List.getElem?_eq_getElem hlt3) hp
        obtain ⟨s1, s2⟩ := r3 i e _ he (List.getElem?_eq_getElem hlt3)
        split at hq
        · rename_i hrb
          rw [Option.map_eq_some_iff] at hq
          obtain ⟨y, hy, rfl⟩ := hq
          exact ⟨(hsame _ hrb).rep _ s1, (hg _ _ hy).rep _ s2⟩
        · cases hq
    | si r pos =>
      rcases hf with ⟨_, hf⟩ | ⟨_, hf⟩
      · cases hf; exact hor
      · cases hf
    | gone =>
      rcases hf with ⟨_, hf⟩ | ⟨_, hf⟩
      · cases hf; trivial
      · cases hf
  · obtain ⟨hlt, hb1⟩ := hback o b hb
    obtain ⟨hlt', hb2⟩ := hback o' b hb'
    have := h.wd.inj _ _ b hb1 hb2 (hlive o b hb g1) (hlive o' b hb' g2)
    rw [← (ren_src hnd hge hlt).1, ← (ren_src hnd hge hlt').1, this]
  · rw [Option.map_eq_some_iff] at hp
    obtain ⟨p', hp', rfl⟩ := hp
    obtain ⟨k1, k2, k3⟩ := h.wd.kap b p' hp'
    exact ⟨k1, fun o e => k2 _ (hback o b e).2, k3⟩
  · obtain ⟨hex, hz'⟩ := cutI_inv hz
    exact ⟨hex, (h.wd.szs c k hz').2⟩
  · have hlt : i < ρ.length := by rw [← hl]; exact (List.getElem?_eq_some_iff.1 hy).1
    rcases hsl' i _ y (List.getElem?_eq_getElem hlt) hy with rfl | hfz
    · exact .any u
    · exact hfz.rep u (h.rep.2 i u _ hu (List.getElem?_eq_getElem hlt))
  · obtain ⟨x, p', hx, hf, rfl⟩ := key p v y ha
    rcases hf with rfl | hf
    · rw [ownB_any] at hb; cases hb
    · rw [hf.own v] at hb
      show (κ b).map (Pl.ren n ks) = _
      rw [h.own p' v x b hx hb]; rfl
  · obtain ⟨x, p', hx, hf, rfl⟩ := key p v y ha
    rcases hf with rfl | hf
    · exact ⟨fun xs s e => by cases e⟩
    · refine ⟨fun ys s e a len cap hv => ?_⟩
      obtain ⟨xs, hxs, hfl, hsz⟩ := hf.sl ys (.gr s) e (by simp)
      obtain ⟨g1, g2, ws, T, fzz, g3, g4, g5⟩ := (h.gr p' v x hx).ok xs s hxs a len cap hv
      have hk : κ a.block = some p' := h.own p' v x a.block hx (by rw [hxs, hv]; rfl)
      rw [hfl]
      exact ⟨hsz s g1, fun i hi' => by rw [hX a.block i fun o cs _ _ e => absurd e ((h.wd.kap _ _ hk).2.1 o)]; exact g2 i hi', ws, T, fzz, g3, g4, g5⟩
  · obtain ⟨ds, y, q1, q2, q3⟩ := hlk
    obtain ⟨cs, r0, r1, r2, r3⟩ := hcell2 q1
    have hlt : i < cs.length := by rw [← r2]; exact (List.getElem?_eq_some_iff.1 q2).1
    unfold srcK at r1
    rw [if_pos hon] at r1
    exact ⟨cs, cs[i], r1, List.getElem?_eq_getElem hlt, by rw [← (r3 i _ y (List.getElem?_eq_getElem hlt) q2).lk]; exact q3⟩
theorem keepSlots_get {σg : Objs} {live kp ks : List Nat} : ∀ (i : Nat) (ρ ρ' : List V), keepSlots n σg live kp ks i ρ = some ρ' → ρ'.length = ρ.length ∧ ∀ (j : Nat) x y, ρ[j]? = some x → ρ'[j]? = some y → y = .any ∨ fz n σg fzD x = some y ∨ escOne n ks σg x = some y
  | i, [], ρ', h => by
    simp only [keepSlots, Option.some.injEq] at h
    subst h
    exact ⟨rfl, fun j x y hx => by simp at hx⟩
  | i, x :: xs, ρ', h => by
    have h' : ∃ y ys, (y = .any ∨ fz n σg fzD x = some y ∨ escOne n ks σg x = some y) ∧ keepSlots n σg live kp ks (i + 1) xs = some ys ∧ ρ' = y :: ys := by
      simp only [keepSlots, Option.bind_eq_some_iff, Option.some.injEq] at h
      obtain ⟨y, hy, ys, hys, rfl⟩ := h
      refine ⟨y, ys, ?_, hys, rfl⟩
      unfold keepSlot at hy
      split at hy
      · split at hy
        · exact .inr (.inr hy)
        · exact .inr (.inl hy)
      · cases hy; exact .inl rfl
    obtain ⟨y, ys, hy, hys, rfl⟩ := h'
    obtain ⟨h1, h2⟩ := keepSlots_get (i + 1) xs ys hys
    refine ⟨by simp [h1], fun j a b ha hb => ?_⟩
    cases j with
    | zero =>
      simp at ha hb
      subst ha hb
      exact hy
    | succ j => exact h2 j a b (by simpa using ha) (by simpa using hb)
theorem escOne_V {σg : Objs} {ks : List Nat} {x y : V} (h : escOne n ks σg x = some y) : escV n ks σg x = some y ∨ fz n σg fzD x = some y := by
  cases x <;> first | exact .inl h | exact .inr h
theorem dedup_ok : ∀ (l : List Nat), (dedup l).Nodup ∧ ∀ k ∈ dedup l, k ∈ l
  | [] => ⟨List.nodup_nil, fun k hk => hk⟩
  | x :: xs => by
    obtain ⟨h1, h2⟩ := dedup_ok xs
    unfold dedup
    split
    · exact ⟨h1, fun k hk => List.mem_cons_of_mem _ (h2 k hk)⟩
    · rename_i hx
      refine ⟨List.nodup_cons.2 ⟨fun hm => hx (by simpa using h2 x hm), h1⟩, fun k hk => ?_⟩
      rcases List.mem_cons.1 hk with rfl | hk
      · exact List.mem_cons_self ..
      · exact List.mem_cons_of_mem _ (h2 k hk)
theorem closeK_ok {l : List Nat} (hl : ∀ k ∈ l, n ≤ k) : (closeK n σ l).Nodup ∧ ∀ k ∈ closeK n σ l, n ≤ k := by
  unfold closeK
  refine ⟨(dedup_ok _).1, fun k hk => ?_⟩
  replace hk := (dedup_ok _).2 k hk
  rcases List.mem_append.1 hk with hk | hk
  · exact hl k hk
  · obtain ⟨o, _, ho⟩ := List.mem_flatMap.1 hk
    split at ho
    · obtain ⟨c, _, hc⟩ := List.mem_filterMap.1 ho
      unfold mpOf at hc
      split at hc
      · split at hc
        · cases hc; assumption
        · cases hc
      · cases hc
    · cases ho
theorem objOf_ge {x : V} {k : Nat} (h : objOf n x = some k) : n ≤ k := by
  unfold objOf at h
  split at h <;> first | (split at h <;> first | (cases h; assumption) | (cases h; done)) | (cases h; done)
theorem escOf_ge {x : V} : ∀ k ∈ escOf n x, n ≤ k := fun k hk => by
  unfold escOf at hk
  split at hk
  · obtain ⟨c, _, hc⟩ := List.mem_filterMap.1 hk; exact objOf_ge hc
  · obtain ⟨c, _, hc⟩ := List.mem_filterMap.1 hk; exact objOf_ge hc
  · cases ho : objOf n x with
    | none => rw [ho] at hk; cases hk
    | some k' => rw [ho] at hk; simp at hk; subst hk; exact objOf_ge ho
theorem St.keepAll (h : St M ι X κ w us ρ σ) (hn : n ≤ σ.length) {live kp : List Nat} {ρ' : List V} {σ' : Objs} (hk : Ev.keepAll n live kp ρ σ = some (ρ', σ')) :
    ∃ M' ks κ', MemLe M M' ∧ (∀ b i, X b → M' b i = M b i) ∧ St M' (cutI ι n ks) X κ' w us ρ' σ' ∧ (∀ o i, o < n → lkAt σ' o i → lkAt σ o i) ∧ n ≤ σ'.length := by
  unfold Ev.keepAll at hk
  simp only [Option.bind_eq_bind, Option.bind_eq_some_iff, Option.some.injEq, Prod.mk.injEq] at hk
  obtain ⟨r, hr, s, hs, rfl, rfl⟩ := hk
  obtain ⟨hnd, hge⟩ := closeK_ok (n := n) (σ := σ) (l := kp.filterMap fun t => if live.contains t then objOf n (ρ.getD t .undef) else none) (fun k hk => by
    obtain ⟨t, _, ht⟩ := List.mem_filterMap.1 hk
    split at ht
    · exact objOf_ge ht
    · cases ht)
  obtain ⟨h1, h2⟩ := keepSlots_get 0 _ _ hr
  obtain ⟨κ', g⟩ := h.keep hn hnd hge h1 (fun j x y hx hy => by
    rcases h2 j x y hx hy with e | e | e
    · exact .inl e
    · exact .inr (.inl e)
    · rcases escOne_V e with e | e
      · exact .inr (.inr e)
      · exact .inr (.inl e)) hs
  exact ⟨_, _, κ', g⟩
theorem keepSlots_nil {live : List Nat} : ∀ (i : Nat) (ρ : List V), keepSlots n σ live [] [] i ρ = cutSlots n σ live i ρ
  | _, [] => rfl
  | i, x :: xs => by
    unfold keepSlots cutSlots keepSlot
    simp only [keepSlots_nil (i + 1) xs, List.contains_nil, Bool.false_eq_true, if_false, Option.bind_eq_bind, Option.pure_def]
    split <;> rfl
theorem keepObjs_nil : keepObjs n σ [] = cuO n σ := by
  unfold keepObjs
  simp only [List.mapM_nil, Option.pure_def, Option.bind_eq_bind, Option.bind_some, List.append_nil]
  show (cuO n σ).bind some = _
  cases cuO n σ <;> rfl
theorem keepAll_nil {live : List Nat} : Ev.keepAll n live [] ρ σ = (cutSlots n σ live 0 ρ).bind fun r => (cuO n σ).bind fun s => some (r, s) := by
  unfold Ev.keepAll
  show (keepSlots n σ live [] [] 0 ρ).bind (fun r => (keepObjs n σ []).bind fun s => some (r, s)) = _
  rw [keepSlots_nil, keepObjs_nil]
end
end Go.Ev
set_option linter.unusedSimpArgs false
set_option linter.unusedVariables false
namespace Go.Ev
open Go
def okOut : Out → Exit
  | .norm => .normal
  | .ex id => .exit id
  | .ret => .ret
def chkCd (P : Program) : Code → Cd → Bool
  | .skip, .skip => true
  | .ret, .ret => true
  | .exit id, .exit id' => id == id'
  | .region _ ops false, .ops _ ss => chkSteps P ops ops.toList ss
  | .region _ ops true, .drw _ l => chkDrw P ops l
  | .seq a b, .seq a' b' => chkCd P a a' && chkCd P b b'
  | .cond c a b, .cond c' a' b' => chkArg c c' && chkCd P a a' && chkCd P b b'
  | .block id b, .block id' b' => id == id' && chkCd P b b'
  | .loop b, .loop _ _ _ b' => chkCd P b b'
  | _, .no => true
  | _, _ => false
section
variable {P : Program} {G : GV} {call : FuncId → List V → Objs → Option (V × Objs)} {X : Nat → Prop}
theorem wp_rounds {c : Code} {Q : Exit → Act → World → Prop} (I : Nat → Act → World → Prop) (round : ∀ k a w, I (k + 1) a w → c.wp P (Exit.then (fun a' w' => I k a' w') Q) a w) (h0 : ∀ a w, ¬ I 0 a w) {k : Nat} {a : Act} {w : World} (h : I k a w) : (Code.loop c).wp P Q a w := by
  intro b kk cs
  have key : ∀ k a w, I k a w → ∃ e a' w', Q e a' w' ∧ Arrives P (lone (b.at a (.code c :: .inLoop c :: kk)) cs w) b kk cs e a' w' := by
    intro k
    induction k with
    | zero => intro a w hI; exact absurd hI (h0 a w)
    | succ k ih =>
      intro a w hI
      obtain ⟨e, a₁, w₁, hq, harr⟩ := round k a w hI b (.inLoop c :: kk) cs
      cases e with
      | normal =>
        obtain ⟨e₂, a₂, w₂, hq₂, harr₂⟩ := ih a₁ w₁ hq
        exact ⟨e₂, a₂, w₂, hq₂, .of_steps (Steps.trans harr (.one step_inLoop)) harr₂⟩
      | exit id => exact ⟨_, a₁, w₁, hq, .pass (x := .inLoop c) rfl (fun _ _ => .inl (by simp)) harr⟩
      | goto l => exact ⟨_, a₁, w₁, hq, .pass (x := .inLoop c) rfl (fun _ _ => .inl (by simp)) harr⟩
      | ret => exact ⟨_, a₁, w₁, hq, .pass (x := .inLoop c) rfl (fun _ _ => .inl (by simp)) harr⟩
      | panic ch => exact ⟨_, a₁, w₁, hq, .pass (x := .inLoop c) rfl (fun _ _ => .inl (by simp)) harr⟩
      | outgrown => exact ⟨_, a₁, w₁, hq, .pass (x := .inLoop c) rfl (fun _ _ => .inl (by simp)) harr⟩
  obtain ⟨e, a', w', hq, harr⟩ := key k a w h
  exact ⟨e, a', w', hq, .of_steps (.one step_loop) harr⟩
theorem St.cutS {M : Mem} {ι : Plc} {κ : Own} {w : World} {us : List Value} {ρ ρ' : List V} {σ : Objs} {n : Nat} {live : List Nat} (h : St M ι X κ w us ρ σ) (hn : σ.length ≤ n) (hs : cutSlots n σ live 0 ρ = some ρ') : St M ι X κ w us ρ' σ := by
  have hg : ∀ x y, fz n σ fzD x = some y → Fz M ι M ι x y := fz_ok h.wd (MemLe.refl M) (fun o b _ e => ⟨e, fun _ h => h⟩) (fun o b hno hb _ i u hu => by
    rw [h.wd.none_of_ge (Nat.le_trans hn hno)] at hb; cases hb) fzD
  rw [← keepSlots_nil] at hs
  obtain ⟨hl, hsl0⟩ := keepSlots_get 0 ρ ρ' hs
  have hsl : ∀ (j : Nat) x y, ρ[j]? = some x → ρ'[j]? = some y → Fz1 M ι M ι x y := fun j x y hx hy => by
    rcases hsl0 j x y hx hy with e | e | e
    · exact .inl e
    · exact .inr (hg _ _ e)
    · refine .inr (hg _ _ ?_)
      unfold escOne at e
      split at e
      · split at e
        · rename_i hc; simp at hc; cases e; unfold ren; rw [if_pos hc]; unfold fzD fz; simp [V.rb, hc]
        · exact e
      · split at e
        · rename_i hc; simp at hc; cases e; unfold ren; rw [if_pos hc]; unfold fzD fz; simp [V.rb, hc]
        · exact e
      · split at e
        · rename_i hc; simp at hc; cases e; unfold ren; rw [if_pos hc]; unfold fzD fz; simp [V.rb, hc]
        · exact e
      · split at e
        · rename_i hc; simp at hc; cases e; unfold ren; rw [if_pos hc]; unfold fzD fz; simp [V.rb, hc]
        · cases e
      · exact e
  have key : ∀ p v y, At ι w us ρ' σ p v y → ∃ x, At ι w us ρ σ p v x ∧ (x = y ∨ Fz1 M ι M ι x y) := by
    intro p v y ha
    cases p with
    | c o i => exact ⟨y, ha, .inl rfl⟩
    | s i =>
      obtain ⟨q1, q2⟩ := ha
      have hlt : i < ρ.length := by rw [← hl]; exact (List.getElem?_eq_some_iff.1 q2).1
      exact ⟨ρ[i], ⟨q1, List.getElem?_eq_getElem hlt⟩, .inr (hsl i _ _ (List.getElem?_eq_getElem hlt) q2)⟩
  refine ⟨h.wd, ⟨by rw [hl]; exact h.rep.1, fun i u y hu hy => ?_⟩, fun p v y b ha hb => ?_, fun p v y ha => ?_⟩
  · have hlt : i < ρ.length := by rw [← hl]; exact (List.getElem?_eq_some_iff.1 hy).1
    rcases hsl i _ y (List.getElem?_eq_getElem hlt) hy with rfl | hfz
    · exact .any u
    · exact hfz.rep u (h.rep.2 i u _ hu (List.getElem?_eq_getElem hlt))
  · obtain ⟨x, hx, hf⟩ := key p v y ha
    rcases hf with rfl | rfl | hf
    · exact h.own p v x b hx hb
    · unfold ownB at hb; split at hb <;> simp_all
    · rw [hf.own v] at hb; exact h.own p v x b hx hb
  · obtain ⟨x, hx, hf⟩ := key p v y ha
    rcases hf with rfl | rfl | hf
    · exact h.gr p v x hx
    · exact ⟨fun xs s e => by cases e⟩
    · refine ⟨fun ys s e a len cap hv => ?_⟩
      obtain ⟨xs, hxs, hfl, hsz⟩ := hf.sl ys (.gr s) e (by simp)
      obtain ⟨g1, g2, g3⟩ := (h.gr p v x hx).ok xs s hxs a len cap hv
      rw [hfl]
      exact ⟨hsz s g1, g2, g3⟩
theorem Got.refl {M : Mem} {ι : Plc} {κ : Own} {w : World} {a : Act} {ρ : List V} {σ : Objs} (h : St M ι X κ w a.tmps.toList ρ σ) : Got a M ι X w σ ρ σ a w := ⟨rfl, M, ι, κ, Ext.refl .., Kp.refl .., h⟩
theorem wp_loop {x : Cd} {fuel : Nat} (ih : ∀ (code : Code), chkCd P code x = true → ∀ (Q : Exit → Act → World → Prop) (M : Mem) (ι : Plc) (κ : Own) (w : World) (a : Act) (ρ : List V) (σ : Objs) (out : Out) (ρ' : List V) (σ' : Objs),
    St M ι X κ w a.tmps.toList ρ σ → GOK G M ι → evCd G call fuel x ρ σ = some (out, ρ', σ') → (∀ a' w', Got a M ι X w σ ρ' σ' a' w' → Q (okOut out) a' w') → code.wp P Q a w)
    {c : Code} (hc : chkCd P c x = true) {Q : Exit → Act → World → Prop} {M : Mem} {ι : Plc} {κ : Own} {w : World} {a : Act} {ρ ρ1 : List V} {σ : Objs} {out : Out} {ρ' : List V} {σ' : Objs} {lin lout kp : List Nat}
    (h : St M ι X κ w a.tmps.toList ρ σ) (hG : GOK G M ι) (h1 : cutSlots σ.length σ lin 0 ρ = some ρ1) (h2 : loopN lin lout kp σ.length (evCd G call fuel x) fuel ρ1 σ = some (out, ρ', σ')) (hQ : ∀ a' w', Got a M ι X w σ ρ' σ' a' w' → Q (okOut out) a' w') : (Code.loop c).wp P Q a w := by
  have back : ∀ {a1 a2 : Act} {w1 w2 : World} {M1 : Mem} {ι1 : Plc} {s s' : Objs} {r' r2 : List V} {s2 : Objs} {live : List Nat}, a1.defers = a.defers → Ext X M ι w M1 ι1 w1 → Kp ι w σ ι1 w1 s → Got a1 M1 ι1 X w1 s r' s' a2 w2 → keepAll σ.length live kp r' s' = some (r2, s2) →
      a2.defers = a.defers ∧ ∃ M2 ι2 κ2, Ext X M ι w M2 ι2 w2 ∧ Kp ι w σ ι2 w2 s2 ∧ St M2 ι2 X κ2 w2 a2.tmps.toList r2 s2 := by
    intro a1 a2 w1 w2 M1 ι1 s s' r' r2 s2 live hd hx hk hgot hka
    obtain ⟨hd2, M2, ι2, κ2, hx2, hk2, hs2⟩ := hgot
    have hkk := hk.trans hx.i hk2
    have hxx := hx.trans hx2
    obtain ⟨M3, ks, κ3, c1, c2, c3, c4, c5⟩ := hs2.keepAll hkk.len hka
    refine ⟨hd2.trans hd, M3, _, κ3, ⟨hxx.m.trans c1, ⟨fun o b hb => ?_, fun b k hb => ?_⟩, fun b i hb => (c2 b i hb).trans (hxx.mX b i hb), hxx.size, hxx.keep, hxx.os, hxx.tape, hxx.output⟩, ⟨c5, fun o ho => ?_, fun o b i hi hl => hkk.lk o b i hi (c4 o i (h.wd.lt_of hi) hl)⟩, c3⟩
    · rw [cutI_lt (h.wd.lt_of hb)]; exact hxx.i.le o b hb
    · obtain ⟨⟨o, ho⟩, _⟩ := h.wd.szs b k hb
      exact cutI_sz (o := o) (by rw [cutI_lt (h.wd.lt_of ho)]; exact hxx.i.le o b ho) (hxx.i.sz b k hb)
    · rw [cutI_lt ho]; exact hkk.dom o ho
  refine wp_rounds (I := fun k a' w' => ∃ M' ι' κ' r s, a'.defers = a.defers ∧ Ext X M ι w M' ι' w' ∧ Kp ι w σ ι' w' s ∧ St M' ι' X κ' w' a'.tmps.toList r s ∧ loopN lin lout kp σ.length (evCd G call fuel x) k r s = some (out, ρ', σ')) (fun k a1 w1 hI => ?_) (fun a1 w1 hI => ?_) (k := fuel) ⟨M, ι, κ, ρ1, σ, rfl, Ext.refl .., Kp.refl .., h.cutS (Nat.le_refl _) h1, h2⟩
  · obtain ⟨M1, ι1, κ1, r, s, hd, hx, hk, hs, hl⟩ := hI
    simp only [loopN] at hl
    split at hl
    · cases hl
    · rename_i r' s' hrd
      simp only [Option.bind_eq_bind, Option.bind_eq_some_iff] at hl
      obtain ⟨⟨r2, s2⟩, hka, hl⟩ := hl
      refine ih _ hc _ M1 ι1 κ1 w1 a1 r s .norm r' s' hs (hG.mono hx.m hx.i) hrd fun a2 w2 hgot => ?_
      obtain ⟨q1, M2, ι2, κ2, q2, q3, q4⟩ := back hd hx hk hgot hka
      exact ⟨M2, ι2, κ2, r2, s2, q1, q2, q3, q4, hl⟩
    · rename_i e r' s' hne hrd
      simp only [Option.bind_eq_bind, Option.bind_eq_some_iff, Option.some.injEq, Prod.mk.injEq] at hl
      obtain ⟨⟨r2, s2⟩, hka, rfl, rfl, rfl⟩ := hl
      refine ih _ hc _ M1 ι1 κ1 w1 a1 r s e r' s' hs (hG.mono hx.m hx.i) hrd fun a2 w2 hgot => ?_
      have := hQ a2 w2 (back hd hx hk hgot hka)
      cases e with
      | norm => exact (hne rfl).elim
      | ex id => exact this
      | ret => exact this
  · obtain ⟨_, _, _, _, _, _, _, _, _, hl⟩ := hI
    simp only [loopN] at hl
    cases hl
theorem wp_cd (hm : P.follows .mixedOrders = true) (hS : ∀ f, Sound P G f (call f)) {fuel : Nat} : ∀ (cd : Cd) (code : Code), chkCd P code cd = true → ∀ (Q : Exit → Act → World → Prop) (M : Mem) (ι : Plc) (κ : Own) (w : World) (a : Act) (ρ : List V) (σ : Objs) (out : Out) (ρ' : List V) (σ' : Objs),
    St M ι X κ w a.tmps.toList ρ σ → GOK G M ι → evCd G call fuel cd ρ σ = some (out, ρ', σ') → (∀ a' w', Got a M ι X w σ ρ' σ' a' w' → Q (okOut out) a' w') → code.wp P Q a w := by
  intro cd
  induction cd with
  | skip =>
    intro code hc Q M ι κ w a ρ σ out ρ' σ' h hG he hQ
    cases code <;> (try (cases hc; done)) <;> (try (rename_i _ _ dr; cases dr <;> (cases hc; done)))
    cases he
    exact wp_skip (hQ _ _ (Got.refl h))
  | ret =>
    intro code hc Q M ι κ w a ρ σ out ρ' σ' h hG he hQ
    cases code <;> (try (cases hc; done)) <;> (try (rename_i _ _ dr; cases dr <;> (cases hc; done)))
    cases he
    exact wp_ret (hQ _ _ (Got.refl h))
  | exit id =>
    intro code hc Q M ι κ w a ρ σ out ρ' σ' h hG he hQ
    cases code <;> (try (cases hc; done)) <;> (try (rename_i _ _ dr; cases dr <;> (cases hc; done)))
    simp only [chkCd, beq_iff_eq] at hc
    subst hc
    cases he
    exact wp_exit (hQ _ _ (Got.refl h))
  | ops k ss =>
    intro code hc Q M ι κ w a ρ σ out ρ' σ' h hG he hQ
    cases code <;> (try (cases hc; done))
    rename_i id ops dr
    cases dr <;> (try (cases hc; done))
    simp only [evCd, Option.map_eq_some_iff] at he
    obtain ⟨⟨r, s⟩, he, e⟩ := he
    cases e
    exact wp_ops_ev hS h hG hc he hQ
  | drw k l =>
    intro code hc Q M ι κ w a ρ σ out ρ' σ' h hG he hQ
    cases code <;> (try (cases hc; done))
    rename_i id ops dr
    cases dr <;> (try (cases hc; done))
    simp only [evCd, Option.map_eq_some_iff] at he
    obtain ⟨⟨r, s⟩, he, e⟩ := he
    cases e
    exact wp_drw_ev hm hS h hG hc he hQ
  | seq x y ihx ihy =>
    intro code hc Q M ι κ w a ρ σ out ρ' σ' h hG he hQ
    cases code <;> (try (cases hc; done)) <;> (try (rename_i _ _ dr; cases dr <;> (cases hc; done)))
    simp only [chkCd, Bool.and_eq_true] at hc
    simp only [evCd] at he
    refine wp_seq ?_
    split at he
    · rename_i r s hx
      refine ihx _ hc.1 _ M ι κ w a ρ σ .norm r s h hG hx fun a' w' hgot => ?_
      obtain ⟨hd, M', ι', κ', hxx, hk, hs⟩ := hgot
      exact ihy _ hc.2 Q M' ι' κ' w' a' r s out ρ' σ' hs (hG.mono hxx.m hxx.i) he fun a'' w'' hg => hQ _ _ (Got.trans hd hxx hk hg)
    · rename_i hne
      refine ihx _ hc.1 _ M ι κ w a ρ σ out ρ' σ' h hG he fun a' w' hgot => ?_
      cases out with
      | norm => exact absurd he (hne ρ' σ')
      | ex id => exact hQ _ _ hgot
      | ret => exact hQ _ _ hgot
  | cond c x y ihx ihy =>
    intro code hc Q M ι κ w a ρ σ out ρ' σ' h hG he hQ
    cases code <;> (try (cases hc; done)) <;> (try (rename_i _ _ dr; cases dr <;> (cases hc; done)))
    simp only [chkCd, Bool.and_eq_true] at hc
    have hv := (Opd.of_state h.rep hG).ok _ _ hc.1.1
    simp only [evCd] at he
    split at he
    · rename_i hq
      rw [hq] at hv
      exact wp_cond_true hv.inv_bool (ihx _ hc.1.2 Q M ι κ w a ρ σ out ρ' σ' h hG he hQ)
    · rename_i hq
      rw [hq] at hv
      exact wp_cond_false hv.inv_bool (ihy _ hc.2 Q M ι κ w a ρ σ out ρ' σ' h hG he hQ)
    · cases he
  | block id x ih =>
    intro code hc Q M ι κ w a ρ σ out ρ' σ' h hG he hQ
    cases code <;> (try (cases hc; done)) <;> (try (rename_i _ _ dr; cases dr <;> (cases hc; done)))
    simp only [chkCd, Bool.and_eq_true, beq_iff_eq] at hc
    obtain ⟨rfl, hc⟩ := hc
    refine wp_block ?_
    simp only [evCd] at he
    split at he
    · rename_i i r s hx
      refine ih _ hc _ M ι κ w a ρ σ (.ex i) r s h hG hx fun a' w' hgot => ?_
      simp only [okOut, Exit.inBlock]
      split at he
      · rename_i hi; cases he; rw [if_pos hi]; exact hQ _ _ hgot
      · rename_i hi; cases he; rw [if_neg hi]; exact hQ _ _ hgot
    · rename_i hne
      refine ih _ hc _ M ι κ w a ρ σ out ρ' σ' h hG he fun a' w' hgot => ?_
      cases out with
      | norm => exact hQ _ _ hgot
      | ex i => exact absurd he (hne i ρ' σ')
      | ret => exact hQ _ _ hgot
  | loop lin lout kp x ih =>
    intro code hc Q M ι κ w a ρ σ out ρ' σ' h hG he hQ
    cases code <;> (try (cases hc; done)) <;> (try (rename_i _ _ dr; cases dr <;> (cases hc; done)))
    simp only [chkCd] at hc
    simp only [evCd, Option.bind_eq_bind, Option.bind_eq_some_iff] at he
    obtain ⟨ρ1, h1, h2⟩ := he
    exact wp_loop ih hc h hG h1 h2 hQ
  | no =>
    intro code hc Q M ι κ w a ρ σ out ρ' σ' h hG he hQ
    simp only [evCd] at he
    cases he
end
end Go.Ev
set_option linter.unusedSimpArgs false
set_option linter.unusedVariables false
namespace Go.Ev
open Go
def chkRes (P : Program) : List ResultVar → List Res → Bool
  | [], [] => true
  | .tmp t :: rs, .tmp t' :: qs => t == t' && chkRes P rs qs
  | .cell t ty :: rs, .cell t' ag sz :: qs => t == t' && chkTy P ty ag sz && chkRes P rs qs
  | _, _ => false
def chkFnB (P : Program) (fn : Func) (F : Fn) : Bool :=
  match fn.body with
  | some c => fn.ntmps == F.nt && chkRes P fn.results.toList F.res && chkCd P c F.body && fn.name != "runtime.NumGoroutine"
  | none => false
def chkFn (P : Program) (f : FuncId) (F : Fn) : Bool :=
  match P.funcs[f]? with
  | some fn => chkFnB P fn F
  | none => false
theorem chkFn_of {P : Program} {f : FuncId} {F : Fn} {fn : Func} (hf : P.funcs[f]? = some fn) (h : chkFnB P fn F = true) : chkFn P f F = true := by
  unfold chkFn
  rw [hf]
  exact h
section
variable {P : Program} {M : Mem} {ι : Plc} {X : Nat → Prop} {κ : Own} {w : World} {us : List Value} {ρ : List V} {σ : Objs} {G : GV} {call : FuncId → List V → Objs → Option (V × Objs)}
theorem St.result (h : St M ι X κ w us ρ σ) {t : Nat} {v : Value} {x : V} (hv : us[t]? = some v) (hx : ρ[t]? = some x) : ∃ κ', St M ι X κ' w [v] [x] σ := by
  refine ⟨fun b => match κ b with | some (.s i) => if i = t then some (.s 0) else none | q => q, ⟨h.wd.mem, h.wd.obj, h.wd.olt, h.wd.inj, h.wd.xlt, h.wd.xobj, fun b p hp => ?_, h.wd.szs⟩, Reps.cons (h.rep.2 t v x hv hx) Reps.nil, fun p u y b ha hb => ?_, fun p u y ha => ?_⟩
  · cases hk : κ b with
    | none => simp [hk] at hp
    | some q => exact h.wd.kap b q hk
  · cases p with
    | c o i =>
      have hk := h.own (.c o i) u y b ha hb
      simp [hk]
    | s i =>
      obtain ⟨h1, h2⟩ := ha
      cases i with
      | succ i => simp at h1
      | zero =>
        simp at h1 h2
        subst h1 h2
        have hk := h.own (.s t) v x b ⟨hv, hx⟩ hb
        simp [hk]
  · cases p with
    | c o i => exact h.gr (.c o i) u y ha
    | s i =>
      obtain ⟨h1, h2⟩ := ha
      cases i with
      | succ i => simp at h1
      | zero =>
        simp at h1 h2
        subst h1 h2
        exact h.gr (.s t) v x ⟨hv, hx⟩
theorem St.only (h : St M ι X κ w us ρ σ) {v : Value} {x : V} (hr : Rep M ι v x) (hn : x.ng = x) : ∃ κ', St M ι X κ' w [v] [x] σ :=
  ⟨_, (h.callee (Reps.cons hr Reps.nil) (fun y hy v => by simp at hy; subst hy; rw [← hn]; exact ownB_nogr _ _)).lessX fun _ hb => .inl hb⟩
def resOne (tmps : Array Value) : ResultVar → Sem Value
  | .tmp t => pure (tmps.getD t Go.undef)
  | .cell a t => do loadVar t (← asAddr (tmps.getD a Go.undef))
theorem results_eq (fn : Func) (tmps : Array Value) : Go.results fn tmps = (do
    let vs ← fn.results.mapM (resOne tmps)
    pure (if h : vs.size = 1 then vs[0] else .tuple vs)) := by
  unfold Go.results
  congr 1
theorem part_nogr {ag : Bool} {sz off : Nat} {cs : List V} {x : V} (h : part ag sz cs off = some x) : x.ng = x := by
  unfold part at h
  split at h
  · split at h
    · cases h; rfl
    · cases h
  · split at h
    · rw [Option.map_eq_some_iff] at h
      obtain ⟨y, _, rfl⟩ := h
      exact V.nogr_nogr y
    · cases h
theorem run_resOne {tmps : Array Value} (h : St M ι X κ w tmps.toList ρ σ) {r : ResultVar} {q : Res} (hc : chkRes P [r] [q] = true) {x : V} (hx : resV ρ σ q = some x) :
    ∃ v, (resOne tmps r).run P w = .ok v w ∧ Rep M ι v x ∧ ((∃ t, v = tmps.getD t Go.undef ∧ x = ρ.getD t .undef) ∨ x.ng = x) := by
  cases r with
  | tmp t =>
    cases q with
    | cell t' ag sz => cases hc
    | tmp t' =>
      simp only [chkRes, Bool.and_true, beq_iff_eq] at hc
      subst hc
      simp only [resV, Option.some.injEq] at hx
      subst hx
      have := reps_getD h.rep t
      rw [List.getD_eq_getElem?_getD] at this
      refine ⟨tmps.getD t Go.undef, rfl, by simpa [Array.getD_eq_getD_getElem?] using this, .inl ⟨t, rfl, rfl⟩⟩
  | cell t ty =>
    cases q with
    | tmp t' => cases hc
    | cell t' ag sz =>
      simp only [chkRes, Bool.and_true, Bool.and_eq_true, beq_iff_eq] at hc
      obtain ⟨rfl, ht⟩ := hc
      simp only [resV] at hx
      have hr := reps_getD h.rep t
      rw [List.getD_eq_getElem?_getD] at hr
      have hr : Rep M ι (tmps.getD t Go.undef) (ρ.getD t .undef) := by simpa [Array.getD_eq_getD_getElem?] using hr
      split at hx
      · rename_i o off hp
        rw [hp] at hr
        obtain ⟨b, hb, hi⟩ := hr.inv_ptr
        simp only [Option.bind_eq_bind, Option.bind_eq_some_iff] at hx
        obtain ⟨cs, hcs, hpp⟩ := hx
        obtain ⟨us, hru, hcc⟩ := h.wd.objCells hi hcs
        obtain ⟨u, hrun, hu⟩ := run_loadVar (P := P) ht hru hcc hpp
        refine ⟨u, ?_, hu, .inr (part_nogr hpp)⟩
        rw [Nat.zero_add] at hrun
        simp only [resOne, hb, sem_bind_run]
        rw [show (asAddr (.pointer (some ⟨b, off, none⟩))).run P w = .ok ⟨b, off, none⟩ w from rfl]
        exact hrun
      · cases hx
theorem run_resList {tmps : Array Value} (h : St M ι X κ w tmps.toList ρ σ) : ∀ {rs : List ResultVar} {qs : List Res}, chkRes P rs qs = true → ∀ {xs : List V}, qs.mapM (resV ρ σ) = some xs → ∃ vs, (rs.mapM (resOne tmps)).run P w = .ok vs w ∧ Reps M ι vs xs
  | [], [], _, xs, hx => by
    simp at hx
    subst hx
    exact ⟨[], by simp [sem_pure_run], Reps.nil⟩
  | r :: rs, q :: qs, hc, xs, hx => by
    have hc2 : chkRes P [r] [q] = true ∧ chkRes P rs qs = true := by
      cases r <;> cases q <;> simp_all [chkRes]
    simp only [List.mapM_cons, Option.bind_eq_bind, Option.bind_eq_some_iff] at hx
    obtain ⟨x, hx1, ys, hys, he⟩ := hx
    cases he
    obtain ⟨v, hv, hr, _⟩ := run_resOne h hc2.1 hx1
    obtain ⟨vs, hvs, hrs⟩ := run_resList h hc2.2 hys
    refine ⟨v :: vs, ?_, Reps.cons hr hrs⟩
    simp only [List.mapM_cons, sem_bind_run, hv, Result.andThen, hvs, sem_pure_run]
  | [], _ :: _, hc, _, _ => by cases hc
  | r :: _, [], hc, _, _ => by cases r <;> cases hc
theorem fn_end {fn : Func} {tmps : Array Value} (h : St M ι X κ w tmps.toList ρ σ) {qs : List Res} (hc : chkRes P fn.results.toList qs = true) {keep : Bool} {r : V} (hr : results keep ρ σ qs = some r) :
    ∃ v κ', (Go.results fn tmps).run P w = .ok v w ∧ St M ι X κ' w [v] [r] σ := by
  have hrun : ∀ vs, (fn.results.toList.mapM (resOne tmps)).run P w = .ok vs w → (Go.results fn tmps).run P w = .ok (if h : vs.length = 1 then vs[0] else .tuple vs.toArray) w := by
    intro vs hvs
    rw [results_eq, Array.mapM_eq_mapM_toList, sem_bind_run]
    rw [show (List.toArray <$> fn.results.toList.mapM (resOne tmps)) = (fn.results.toList.mapM (resOne tmps)) >>= fun a => pure a.toArray from (bind_pure_comp _ _).symm]
    rw [sem_bind_run, hvs]
    simp [Result.andThen, sem_pure_run]
  match qs, hr with
  | [q], hr =>
    simp only [results, Option.bind_eq_bind, Option.bind_eq_some_iff] at hr
    obtain ⟨x, hx, hr⟩ := hr
    split at hr
    · cases hr
      match hrs : fn.results.toList, hc with
      | [rv], hc =>
        obtain ⟨v, hv, hrep, hcase⟩ := run_resOne h hc hx
        have h1 := hrun [v] (by
          rw [hrs]
          simp only [List.mapM_cons, List.mapM_nil, sem_bind_run, hv, Result.andThen, sem_pure_run])
        simp only [List.length_singleton, dite_true, List.getElem_cons_zero] at h1
        cases keep with
        | false =>
          obtain ⟨κ', hs⟩ := h.only (x := x.ng) hrep.ng (V.nogr_nogr x)
          exact ⟨v, κ', h1, hs⟩
        | true =>
          simp only [keepIf, if_true]
          rcases hcase with ⟨t, rfl, rfl⟩ | hn
          · rcases Nat.lt_or_ge t ρ.length with hlt | hge
            · have hlt' : t < tmps.size := by have := h.rep.1; simp at this; omega
              obtain ⟨κ', hs⟩ := h.result (t := t) (List.getElem?_eq_getElem (by simpa using hlt')) (List.getElem?_eq_getElem hlt)
              refine ⟨_, κ', h1, ?_⟩
              simpa [Array.getD, hlt', List.getD, List.getElem?_eq_getElem hlt] using hs
            · have e : ρ.getD t .undef = .undef := by simp [List.getD, List.getElem?_eq_none hge]
              rw [e] at hrep ⊢
              obtain ⟨κ', hs⟩ := h.only hrep rfl
              exact ⟨_, κ', h1, hs⟩
          · obtain ⟨κ', hs⟩ := h.only hrep hn
            exact ⟨v, κ', h1, hs⟩
      | [], hc => cases hc
      | rv :: _ :: _, hc => cases rv <;> cases q <;> simp [chkRes] at hc
    · cases hr
  | [], hr =>
    have hr2 : (some (V.tup []) : Option V) = some r := hr
    cases hr2
    obtain ⟨vs, hvs, hrs⟩ := run_resList (P := P) h hc (xs := []) (by rfl)
    have : vs = [] := List.length_eq_zero_iff.1 (by simpa using hrs.1)
    subst this
    obtain ⟨κ', hs⟩ := h.only (x := .tup []) (v := .tuple #[]) (.tup #[] [] rfl (fun i v c hv => by simp at hv)) rfl
    exact ⟨_, κ', hrun [] hvs, by simpa using hs⟩
  | q1 :: q2 :: qs, hr =>
    simp only [results, Option.bind_eq_bind, Option.bind_eq_some_iff] at hr
    obtain ⟨xs, hxs, he⟩ := hr
    cases he
    obtain ⟨vs, hvs, hrs⟩ := run_resList (P := P) h hc hxs
    have hlen : xs.length = (q1 :: q2 :: qs).length := (mapM_some hxs).1
    have hne : ¬ vs.length = 1 := by rw [hrs.1, hlen]; simp
    have h1 := hrun vs hvs
    rw [dif_neg hne] at h1
    have hrn := hrs.ng
    obtain ⟨κ', hs⟩ := h.only (x := .tup (xs.map V.ng)) (v := .tuple vs.toArray) (.tup _ _ (by simpa using hrn.1) (fun i v c hv hcc => hrn.2 i v c (by simpa using hv) hcc)) rfl
    exact ⟨_, κ', h1, hs⟩
theorem St.enter {vs : List Value} {xs : List V} (h : St M ι X κ w vs xs σ) (n : Nat) : St M ι X κ w (vs ++ List.replicate n Go.undef) (xs ++ List.replicate n .undef) σ := by
  have key : ∀ p v x, At ι w (vs ++ List.replicate n Go.undef) (xs ++ List.replicate n .undef) σ p v x → At ι w vs xs σ p v x ∨ x = .undef := by
    intro p v x ha
    cases p with
    | c o i => exact .inl ha
    | s i =>
      obtain ⟨h1, h2⟩ := ha
      rw [List.getElem?_append] at h1 h2
      rw [← h.rep.1] at h2
      split at h1
      · rename_i hi; rw [if_pos hi] at h2; exact .inl ⟨h1, h2⟩
      · rename_i hi
        rw [if_neg hi, List.getElem?_replicate] at h2
        split at h2
        · cases h2; exact .inr rfl
        · cases h2
  refine ⟨h.wd, h.rep.append ⟨by simp, fun i u c hu hc => ?_⟩, fun p v x b ha hb => ?_, fun p v x ha => ?_⟩
  · rw [List.getElem?_replicate] at hu hc
    split at hu
    · rename_i hi; rw [if_pos hi] at hc; cases hu; cases hc; exact .undef
    · cases hu
  · rcases key p v x ha with ha | rfl
    · exact h.own p v x b ha hb
    · unfold ownB at hb; split at hb <;> simp_all
  · rcases key p v x ha with ha | rfl
    · exact h.gr p v x ha
    · exact ⟨fun xs s e => by cases e⟩
theorem run_callFunc {f : FuncId} {fn : Func} {c : Code} (hf : P.funcs[f]? = some fn) (hb : fn.body = some c) (hn : (fn.name == "runtime.NumGoroutine") = false) (vs : Array Value) : (callFunc f vs).run P w = .ok (.enter f vs) w := by
  unfold callFunc
  rw [sem_bind_run]
  rw [show (Go.program).run P w = .ok P w from rfl]
  simp only [Result.andThen, hf, hn, hb]
  simp [sem_pure_run]
theorem evFn_sound (hm : P.follows .mixedOrders = true) (hS : ∀ f, Sound P G f (call f)) {f : FuncId} {F : Fn} (hc : chkFn P f F = true) (fuel : Nat) : Sound P G f (evFn G call F fuel) := by
  intro args σ r σ' he M ι X κ w vs h hG
  unfold chkFn at hc
  split at hc
  · rename_i fn hf
    unfold chkFnB at hc
    split at hc
    · rename_i c hb
      simp only [Bool.and_eq_true, beq_iff_eq, Bool.not_eq_true', bne_iff_ne, ne_eq] at hc
      obtain ⟨⟨⟨hnt, hres⟩, hcd⟩, hname⟩ := hc
      refine .inl ⟨run_callFunc hf hb (by simpa using hname) vs, ?_⟩
      refine calls_of_wp hf hb ?_
      have hlen : vs.size = args.length := by simpa using h.rep.1
      have hent := h.enter (F.nt - args.length)
      unfold evFn at he
      simp only [Option.bind_eq_bind, Option.bind_eq_some_iff] at he
      obtain ⟨⟨out, ρ', σ1⟩, hrun, he⟩ := he
      have hst : St M ι X κ w ({ tmps := vs ++ Array.replicate (fn.ntmps - vs.size) Go.undef, defers := [] } : Act).tmps.toList (args ++ List.replicate (F.nt - args.length) .undef) σ := by
        simpa [hnt, hlen] using hent
      have hout : (out = .norm ∨ out = .ret) ∧ ∃ r0, results F.keep ρ' σ1 F.res = some r0 ∧ ∃ ks, ks.Nodup ∧ (∀ k ∈ ks, σ.length ≤ k) ∧ keepObjs σ.length σ1 ks = some σ' ∧ (fz σ.length (goneAt ks σ1) fzD r0 = some r ∨ escV σ.length ks (goneAt ks σ1) r0 = some r) := by
        have fin : ∀ {r0 : V}, results F.keep ρ' σ1 F.res = some r0 → endV F.esc σ.length σ1 r0 = some (r, σ') → ∃ r0, results F.keep ρ' σ1 F.res = some r0 ∧ ∃ ks, ks.Nodup ∧ (∀ k ∈ ks, σ.length ≤ k) ∧ keepObjs σ.length σ1 ks = some σ' ∧ (fz σ.length (goneAt ks σ1) fzD r0 = some r ∨ escV σ.length ks (goneAt ks σ1) r0 = some r) := by
          intro r0 h0 hf
          generalize F.esc = es at hf
          cases es
          · simp only [endV, Option.bind_eq_some_iff, Option.map_eq_some_iff, Prod.mk.injEq] at hf
            obtain ⟨σ2, h2, r1, h3, rfl, rfl⟩ := hf
            exact ⟨r0, h0, [], List.nodup_nil, fun k hk => by simp at hk, by rw [keepObjs_nil]; exact h2, .inl h3⟩
          · simp only [endV, Option.bind_eq_some_iff, Option.map_eq_some_iff, Prod.mk.injEq] at hf
            obtain ⟨r1, h3, σ3, h4, rfl, rfl⟩ := hf
            obtain ⟨g1, g2⟩ := closeK_ok (n := σ.length) (σ := σ1) (l := escOf σ.length r0) escOf_ge
            exact ⟨r0, h0, _, g1, g2, h4, .inr h3⟩
        cases out with
        | ex id => simp at he
        | norm =>
          simp only [Option.bind_eq_some_iff] at he
          obtain ⟨r0, h0, he⟩ := he
          exact ⟨.inl rfl, fin h0 he⟩
        | ret =>
          simp only [Option.bind_eq_some_iff] at he
          obtain ⟨r0, h0, he⟩ := he
          exact ⟨.inr rfl, fin h0 he⟩
      obtain ⟨ho, r0, h0, ks, g1, g2, g3, g4⟩ := hout
      refine wp_cd hm hS F.body c hcd _ M ι κ w _ _ σ out ρ' σ1 hst hG hrun fun a' w' hgot => ?_
      obtain ⟨hd, M1, ι1, κ1, hx, hk, hs⟩ := hgot
      obtain ⟨v, κ2, hv, hs2⟩ := fn_end (P := P) (fn := fn) hs hres h0
      obtain ⟨κ3, c1, c2, c3, c4, c5⟩ := hs2.keep hk.len g1 g2 (ρ' := [r]) rfl (fun j x y hx' hy => by
        cases j with
        | zero => simp at hx' hy; subst hx' hy; exact .inr g4
        | succ j => simp at hx') g3
      have hfin : bodyPost P fn (fun e w' => ∃ v, e = .returned v ∧ ∃ M' ι' κ', (Ext X M ι w M' ι' w' ∧ Kp ι w σ ι' w' σ') ∧ St M' ι' X κ' w' [v] [r] σ') .ret a' w' := by
        refine ⟨hd, v, hv, v, rfl, _, _, κ3, ⟨⟨hx.m.trans c1, ⟨fun o b hb => ?_, fun b k hb => ?_⟩, fun b i hb => (c2 b i hb).trans (hx.mX b i hb), hx.size, hx.keep, hx.os, hx.tape, hx.output⟩, ⟨c5, fun o ho => ?_, fun o b i hi hl => hk.lk o b i hi (c4 o i (h.wd.lt_of hi) hl)⟩⟩, c3⟩
        · rw [cutI_lt (h.wd.lt_of hb)]; exact hx.i.le o b hb
        · obtain ⟨⟨o, ho⟩, _⟩ := h.wd.szs b k hb
          exact cutI_sz (o := o) (by rw [cutI_lt (h.wd.lt_of ho)]; exact hx.i.le o b ho) (hx.i.sz b k hb)
        · rw [cutI_lt ho]; exact hk.dom o ho
      rcases ho with rfl | rfl
      · exact hfin
      · exact hfin
    · cases hc
  · cases hc
theorem ev_sound (hm : P.follows .mixedOrders = true) (C : Ctx) (hP : ∀ f h, C.prim f = some h → Sound P C.G f h) (hF : ∀ f F, C.code f = some F → chkFn P f F = true) : ∀ (n : Nat) (f : FuncId), Sound P C.G f (ev C n f)
  | 0, f => fun args σ r σ' he => by simp [ev] at he
  | n + 1, f => fun args σ r σ' he => by
    simp only [ev] at he
    split at he
    · rename_i h hp
      exact hP f h hp args σ r σ' he
    · split at he
      · rename_i F hF'
        exact evFn_sound hm (ev_sound hm C hP hF n) (hF f F hF') n args σ r σ' he
      · cases he
end
end Go.Ev
set_option linter.unusedSimpArgs false
set_option linter.unusedVariables false
namespace Go.Ev
open Go
def fin (esc keep : Bool) (res : List Res) (σ : Objs) : Ran → Option (V × Objs)
  | some (.ret, ρ, σ') | some (.norm, ρ, σ') => (Ev.results keep ρ σ' res).bind fun r => endV esc σ.length σ' r
  | _ => none
theorem fz_rb {n d : Nat} {σ : Objs} {x : V} (h : V.rb n x = true) : fz n σ d x = some x := by cases d <;> simp [fz, h]
theorem fz_int {n d : Nat} {σ : Objs} {k : IntKind} {a : Int} : fz n σ d (.int k a) = some (.int k a) := by cases d <;> rfl
theorem fz_bool {n d : Nat} {σ : Objs} {b : Bool} : fz n σ d (.bool b) = some (.bool b) := by cases d <;> rfl
theorem fz_str {n d : Nat} {σ : Objs} {s : List UInt8} : fz n σ d (.str s) = some (.str s) := by cases d <;> rfl
theorem fz_nilp {n d : Nat} {σ : Objs}  : fz n σ d (.nilp) = some (.nilp) := by cases d <;> rfl
theorem fz_nils {n d : Nat} {σ : Objs}  : fz n σ d (.nils) = some (.nils) := by cases d <;> rfl
theorem fz_nili {n d : Nat} {σ : Objs}  : fz n σ d (.nili) = some (.nili) := by cases d <;> rfl
theorem fz_nilf {n d : Nat} {σ : Objs}  : fz n σ d (.nilf) = some (.nilf) := by cases d <;> rfl
theorem fz_undef {n d : Nat} {σ : Objs}  : fz n σ d (.undef) = some (.undef) := by cases d <;> rfl
theorem fz_any {n d : Nat} {σ : Objs}  : fz n σ d (.any) = some (.any) := by cases d <;> rfl
section
variable {G : GV} {call : FuncId → List V → Objs → Option (V × Objs)} {fuel : Nat} {x : V} {ρ : List V} {σ : Objs}
theorem s_cons {n : Nat} {live : List Nat} {i : Nat} {xs : List V} : cutSlots n σ live i (x :: xs) = (if live.contains i then fz n σ fzD x else some .any).bind fun y => (cutSlots n σ live (i + 1) xs).bind fun ys => some (y :: ys) := by
  simp only [cutSlots]; split <;> rfl
theorem rbs_bytes {n : Nat} : ∀ {s : List UInt8}, V.rbs n (ofBytes s) = true
  | [] => rfl
  | b :: s => by
    show (V.rb n (.int .u8 b.toNat) && V.rbs n (ofBytes s)) = true
    rw [rbs_bytes]; rfl
theorem fz_bytes {n d : Nat} {s : List UInt8} {c : Cap} : fz n σ d (.sl (ofBytes s) c) = some (.sl (ofBytes s) c) := fz_rb rbs_bytes
theorem get0 {cs : List V} : Objs.get (O.cells cs :: σ) 0 = some cs := rfl
theorem n_int {k : IntKind} {n : Int} : (V.int k n).ng = .int k n := rfl
theorem n_bool {b : Bool} : (V.bool b).ng = .bool b := rfl
theorem n_str {s : List UInt8} : (V.str s).ng = .str s := rfl
theorem n_undef : V.undef.ng = .undef := rfl
theorem n_any : V.any.ng = .any := rfl
theorem n_nilp : V.nilp.ng = .nilp := rfl
theorem n_ptr {o i : Nat} : (V.ptr o i).ng = .ptr o i := rfl
theorem n_eptr {cs : List V} {i : Nat} : (V.eptr cs i).ng = .eptr cs i := rfl
theorem n_nils : V.nils.ng = .nils := rfl
theorem n_sl {xs : List V} {c : Cap} : (V.sl xs c).ng = .sl xs .no := rfl
theorem n_hs {a b c d : Nat} {e : Bool} : (V.hs a b c d e).ng = .hs a b c d e := rfl
theorem n_agg {cs : List V} : (V.agg cs).ng = .agg cs := rfl
theorem n_tup {cs : List V} : (V.tup cs).ng = .tup cs := rfl
theorem n_ifc {t : TypeId} {x : V} : (V.ifc t x).ng = .ifc t x := rfl
theorem n_nili : V.nili.ng = .nili := rfl
theorem n_fn {f : FuncId} {a b : List V} : (V.fn f a b).ng = .fn f a b := rfl
end
def allOk (P : Program) : List (Nat × Ev.Fn) → Prop
  | [] => True
  | p :: r => chkFn P p.1 p.2 = true ∧ allOk P r
def lookF (l : List (Nat × Ev.Fn)) (f : Nat) : Option Ev.Fn :=
  match l with
  | [] => none
  | p :: r => if p.1 == f then some p.2 else lookF r f
theorem lookF_ok {P : Program} : ∀ {l : List (Nat × Ev.Fn)}, allOk P l → ∀ f F, lookF l f = some F → chkFn P f F = true
  | [], _, f, F, h => by cases h
  | p :: r, ha, f, F, h => by
    unfold lookF at h
    split at h
    · rename_i hp
      cases h
      have : p.1 = f := by simpa using hp
      rw [← this]
      exact ha.1
    · exact lookF_ok ha.2 f F h
def memOf (W : World) : Mem := fun b i => W.cell? ⟨b, i, none⟩
def noPlc : Plc := ⟨fun _ => none, fun _ => none⟩
theorem St.start (W : World) {us : List Value} {xs : List V} (hr : Reps (memOf W) noPlc us xs) (hn : ∀ x ∈ xs, x.ng = x) : St (memOf W) noPlc (fun b => b < W.heap.size) (fun _ => none) W us xs [] := by
  refine ⟨⟨fun b i u h => h, fun o b h => (by cases h), fun o b h => (by cases h), fun o o' b h _ _ _ => (by cases h), fun b h => h, fun o b h => (by cases h), fun b p h => (by cases h), fun b k h => (by cases h)⟩, hr, fun p v x b ha hb => ?_, fun p v x ha => ?_⟩
  · cases p with
    | c o i => obtain ⟨_, _, _, _, _, h, _⟩ := ha; cases h
    | s i =>
      rw [← hn x (List.mem_of_getElem? ha.2), ownB_nogr] at hb; cases hb
  · cases p with
    | c o i => obtain ⟨_, _, _, _, _, h, _⟩ := ha; cases h
    | s i => exact .of_none (by rw [← hn x (List.mem_of_getElem? ha.2)]; exact ownB_nogr _ _)
theorem calls_of_ev {P : Program} (hm : P.follows .mixedOrders = true) (C : Ctx) (hP : ∀ f h, C.prim f = some h → Sound P C.G f h) (hF : ∀ f F, C.code f = some F → chkFn P f F = true) {n : Nat} {f : FuncId} {F : Ev.Fn} (hc : C.code f = some F) {vs : Array Value} {args : List V} {b : Bool}
    (W : World) (hr : Reps (memOf W) noPlc vs.toList args) (hn : ∀ x ∈ args, x.ng = x) (hG : GOK C.G (memOf W) noPlc) (he : ev C n f args [] = some (.bool b, [])) :
    Calls P f vs W (fun e w' => e = .returned (.bool b) ∧ RowKit.Below W.heap.size W w') := by
  have hs := ev_sound hm C hP hF n f args [] (.bool b) [] he (memOf W) noPlc _ _ W vs (St.start W hr hn) hG
  have fin : ∀ v w', (∃ M' ι' κ', (Ext (fun b => b < W.heap.size) (memOf W) noPlc W M' ι' w' ∧ Kp noPlc W [] ι' w' []) ∧ St M' ι' (fun b => b < W.heap.size) κ' w' [v] [V.bool b] []) → v = .bool b ∧ RowKit.Below W.heap.size W w' := by
    intro v w' ⟨M', ι', κ', ⟨hx, _⟩, hst⟩
    exact ⟨(hst.rep.2 0 _ _ rfl rfl).inv_bool, ⟨hx.os, hx.tape, hx.output, hx.size, fun k hk => hx.keep k hk⟩⟩
  rcases hs with ⟨_, h2⟩ | ⟨v, w', h1, _⟩
  · refine h2.mono fun e w' ⟨v, he, hR⟩ => ?_
    obtain ⟨rfl, hb⟩ := fin v w' hR
    exact ⟨he, hb⟩
  · have hc' := hF f F hc
    unfold chkFn at hc'
    split at hc'
    · rename_i fn hf
      unfold chkFnB at hc'
      split at hc'
      · rename_i c hb
        simp only [Bool.and_eq_true, bne_iff_ne, ne_eq] at hc'
        rw [run_callFunc hf hb (by simpa using hc'.2) vs] at h1
        cases h1
      · cases hc'
    · cases hc'
end Go.Ev
set_option linter.unusedSimpArgs false
set_option linter.unusedVariables false
namespace Go.Ev
open Go
section
variable {P : Program} {M : Mem} {ι : Plc} {X : Nat → Prop} {κ : Own} {w w' : World} {us : List Value} {ρ : List V} {σ : Objs} {G : GV}
theorem Below.at (hb : RowKit.Below w.heap.size w w') {b : Nat} (hlt : b < w.heap.size) : w'.heap[b]? = w.heap[b]? := hb.block b hlt
theorem St.below (h : St M ι X κ w us ρ σ) (hb : RowKit.Below w.heap.size w w') : St M ι X κ w' us ρ σ := by
  have hat : ∀ p v x, At ι w' us ρ σ p v x → At ι w us ρ σ p v x := by
    intro p v x ha
    cases p with
    | s i => exact ha
    | c o i =>
      obtain ⟨b, ws, T, fz, cs, g1, g2, g3⟩ := ha
      rw [hb.block b (h.wd.olt o b g1)] at g2
      exact ⟨b, ws, T, fz, cs, g1, g2, g3⟩
  refine ⟨⟨fun b i u hm => ?_, fun o b hi => ?_, fun o b hi => Nat.lt_of_lt_of_le (h.wd.olt o b hi) hb.size, h.wd.inj, fun b hx => Nat.lt_of_lt_of_le (h.wd.xlt b hx) hb.size, h.wd.xobj, fun b p hp => ⟨(h.wd.kap b p hp).1, (h.wd.kap b p hp).2.1, Nat.lt_of_lt_of_le (h.wd.kap b p hp).2.2 hb.size⟩, fun b k hz => ?_⟩, h.rep, fun p v x b ha ho => h.own p v x b (hat p v x ha) ho, fun p v x ha => ?_⟩
  · rw [← h.wd.mem b i u hm]
    unfold World.cell?
    rw [hb.block b (h.wd.lt hm)]
  · obtain ⟨O, hO, hor⟩ := h.wd.obj o b hi
    refine ⟨O, hO, ?_⟩
    have e := hb.block b (h.wd.olt o b hi)
    cases O with
    | cells cs =>
      obtain ⟨ws, T, fz, h1, h2⟩ := hor
      exact ⟨ws, T, fz, by rw [e]; exact h1, h2⟩
    | mp es =>
      obtain ⟨en, k, h1, h2⟩ := hor
      exact ⟨en, k, by rw [e]; exact h1, h2⟩
    | si r pos =>
      obtain ⟨s, h1, h2⟩ := hor
      exact ⟨s, by rw [e]; exact h1, h2⟩
    | gone => trivial
  · obtain ⟨⟨o, ho⟩, ws, T, fz, h2, h3⟩ := h.wd.szs b k hz
    exact ⟨⟨o, ho⟩, ws, T, fz, by rw [hb.block b (h.wd.olt o b ho)]; exact h2, h3⟩
  · have ha' := hat p v x ha
    refine ⟨fun xs sz hx a len cap hv => ?_⟩
    have hob : ownB v x = some a.block := by rw [hx, hv]; rfl
    have hlt := (h.wd.kap _ _ (h.own p v x _ ha' hob)).2.2
    obtain ⟨g1, g2, ws, T, fz, g3, g4⟩ := (h.gr p v x ha').ok xs sz hx a len cap hv
    exact ⟨g1, g2, ws, T, fz, by rw [hb.block _ hlt]; exact g3, g4⟩
theorem Ext.below (hx : ∀ b, X b → b < w.heap.size) (hb : RowKit.Below w.heap.size w w') : Ext X M ι w M ι w' :=
  ⟨.refl _, .refl _, fun _ _ _ => rfl, hb.size, fun b h => hb.block b (hx b h), hb.os, hb.tape, hb.output⟩
theorem Sound.of_below {f : FuncId} {h : List V → Objs → Option (V × Objs)}
    (H : ∀ args σ r σ', h args σ = some (r, σ') → σ' = σ ∧ r.ng = r ∧ ∀ M ι X κ w (vs : Array Value), St M ι X κ w vs.toList args σ → GOK G M ι →
      (callFunc f vs).run P w = .ok (.enter f vs) w ∧ ∃ v, Rep M ι v r ∧ Calls P f vs w (fun e w' => e = .returned v ∧ RowKit.Below w.heap.size w w')) : Sound P G f h := by
  intro args σ r σ' he M ι X κ w vs hst hG
  obtain ⟨rfl, hn, H⟩ := H args σ r σ' he
  obtain ⟨hrun, v, hv, hc⟩ := H M ι X κ w vs hst hG
  refine .inl ⟨hrun, hc.mono fun e w' ⟨he, hb⟩ => ⟨v, he, M, ι, ?_⟩⟩
  obtain ⟨κ', hs⟩ := (hst.below hb).only hv hn
  exact ⟨κ', ⟨Ext.below hst.wd.xlt hb, Kp.same _ _ fun o b hi => hb.block b (hst.wd.olt o b hi)⟩, hs⟩
end
end Go.Ev
set_option linter.unusedSimpArgs false
set_option linter.unusedVariables false
namespace Go.Ev
open Go
abbrev Ro := Option (V × Objs)
structure Kt where
  nm : List V → Objs → Ro
  ex : Nat → List V → Objs → Ro
  rt : List V → Objs → Ro
structure Mach where
  G : GV
  call : FuncId → List V → Objs → Ro
  fx : ((List V → Objs → Ro) → List V → Objs → Ro) → List V → Objs → Ro
def kc (K : Kt) : Ran → Ro
  | some (.norm, ρ, σ) => K.nm ρ σ
  | some (.ex i, ρ, σ) => K.ex i ρ σ
  | some (.ret, ρ, σ) => K.rt ρ σ
  | none => none
def bd {α : Type} (x : Option α) (f : α → Ro) : Ro :=
  match x with
  | some a => f a
  | none => none
def br (c : V) (a b : Ro) : Ro :=
  match c with
  | .bool true => a
  | .bool false => b
  | _ => none
def gd (g : V) (t : Bool) (y n : Ro) : Ro :=
  match g with
  | .bool b => if b == t then y else n
  | .undef => n
  | _ => none
theorem bd_some {α : Type} {a : α} {f : α → Ro} : bd (some a) f = f a := rfl
theorem bd_none {α : Type} {f : α → Ro} : bd none f = none := rfl
theorem bd_bind {α β : Type} {x : Option α} {g : α → Option β} {f : β → Ro} : bd (x.bind g) f = bd x fun a => bd (g a) f := by cases x <;> rfl
theorem bd_map {α β : Type} {x : Option α} {g : α → β} {f : β → Ro} : bd (x.map g) f = bd x fun a => f (g a) := by cases x <;> rfl
theorem bd_congr {α : Type} {x y : Option α} (h : x = y) (f : α → Ro) : bd x f = bd y f := by rw [h]
theorem br_congr {c d : V} (h : c = d) (a b : Ro) : br c a b = br d a b := by rw [h]
theorem gd_congr {c d : V} (h : c = d) (t : Bool) (a b : Ro) : gd c t a b = gd d t a b := by rw [h]
theorem br_bool {t : Bool} {a b : Ro} : br (.bool t) a b = if t = true then a else b := by cases t <;> rfl
theorem br_t {a b : Ro} : br (.bool true) a b = a := rfl
theorem br_f {a b : Ro} : br (.bool false) a b = b := rfl
section
variable (M : Mach)
def boxV (σ : Objs) (x : V) : Ro := if okCells x.cells then some (.ptr σ.length 0, σ ++ [.cells (x.cells.map V.ng)]) else none
def buildHV (ag : Bool) (sz len : Nat) (z : V) (parts : List (Nat × V)) (σ : Objs) : Ro := do
  let xs ← laySl sz (List.replicate len z) parts
  if okRow ag sz xs then some (.hg σ.length len sz ag, σ ++ [.cells ((xs.flatMap V.cells).map V.ng)]) else none
def buildFV (ag : Bool) (sz len : Nat) (z : V) (parts : List (Nat × V)) : Option V := do
  let xs ← laySl sz (List.replicate len z) parts
  if okRow ag sz xs then some (.sl xs .fx) else none
def buildGV (ag : Bool) (sz len : Nat) (z : V) (parts : List (Nat × V)) : Option V := do
  let xs ← laySl sz (List.replicate len z) parts
  if okRow ag sz xs then some (.sl xs (.gr sz)) else none
def markV : V → Option V
  | .sl xs (.gr _) => some (.sl xs .no)
  | _ => none
def stV (σ : Objs) (sz : Nat) (p v t : V) : Ro :=
  match p with
  | .ptr o off => do
    let cs ← Objs.get σ o
    let ds := v.cells
    if ds.length = sz ∧ off + sz ≤ cs.length ∧ okCells ds then
      match v with
      | .agg _ => some (.undef, σ.set o (.cells (putAt cs off (ds.map V.ng))))
      | _ => if t.isLk then none else some (.undef, σ.set o (.cells (cs.set off t)))
    else none
  | _ => none
def loadTV (σ : Objs) : V → Ro
  | .ptr o off => do
    let cs ← Objs.get σ o
    let v ← cs[off]?
    match v with
    | .sl xs (.gr s) => some (.sl xs (.gr s), σ.set o (.cells (cs.set off (.sl xs .no))))
    | .sl _ .lk => none
    | v => some (v, σ)
  | .eptr cs off => do
    let v ← cs[off]?
    some (v.ng, σ)
  | _ => none
def appV (str ag : Bool) (sz bytes : Nat) (σ : Objs) (x y : V) : Option V := do
  let ys ← srcOf str σ y
  evApp ag sz bytes x ys
def appHV (str ag : Bool) (sz bytes : Nat) (σ : Objs) (x y : V) : Ro := do
  let ys ← srcOf str σ y
  match ys with
  | [] => do
    let v ← evApp ag sz bytes x []
    some (v.ng, σ)
  | _ :: _ => do
    let v ← evApp ag sz bytes x ys
    match v with
    | .sl xs _ => some (.hs σ.length 0 xs.length sz ag, σ ++ [.cells ((xs.flatMap V.cells).map V.ng)])
    | _ => none
def bytesHV (σ : Objs) : V → Ro
  | .str b => some (.hs σ.length 0 b.length 1 false, σ ++ [.cells (ofBytes b)])
  | _ => none
def mkHV (ag : Bool) (sz bytes : Nat) (z l c : V) (σ : Objs) : Ro := do
  let l ← intOf l
  let c ← intOf c
  if 0 ≤ l ∧ l ≤ c ∧ c * bytes ≤ rowMax ∧ z.cells.length = sz ∧ okCells z.cells ∧ agOk ag z then
    some (.hs σ.length 0 l.toNat sz ag, σ ++ [.cells ((List.replicate c.toNat z).flatMap V.cells)])
  else none
def mkFV (ag : Bool) (sz bytes : Nat) (z l c : V) : Option V := do
  let l ← intOf l
  let c ← intOf c
  if 0 ≤ l ∧ l ≤ c ∧ c * bytes ≤ rowMax ∧ z.cells.length = sz ∧ okCells z.cells ∧ agOk ag z then
    some (.sl (List.replicate l.toNat z) (if l = c then .fx else .gr sz))
  else none
def msetV (kk : CK) (σ : Objs) (m k x : V) : Ro :=
  match m with
  | .mp o =>
    match σ[o]? with
    | some (.mp es) => do
      let es' ← mput kk k x es
      if isKey kk k then some (.undef, σ.set o (.mp es')) else none
    | _ => none
  | _ => none
def calliV (σ : Objs) (x : V) (ms : List (TypeId × FuncId × Option (Nat × Nat))) (args : List V) : Ro :=
  match x with
  | .ifc t y =>
    match ms.find? fun p => p.1 == t with
    | some (_, f, none) => M.call f (y.ng :: args) σ
    | some (_, f, some (off, sz)) => bd (evField true off sz y) fun z => M.call f (z :: args) σ
    | none => none
  | _ => none
def rngV (σ : Objs) : V → Ro
  | .str s => some (.ptr σ.length 0, σ ++ [.si s 0])
  | _ => none
def nxtV (σ : Objs) : V → Ro
  | .ptr o 0 =>
    match σ[o]? with
    | some (.si [] _) => some (.tup [.bool false], σ)
    | some (.si (b :: s) pos) =>
      let r := runeOf (b :: s)
      some (.tup [.bool true, .int .i64 pos, .int .i32 r.1], σ.set o (.si ((b :: s).drop r.2) (pos + r.2)))
    | _ => none
  | _ => none
def cpyV (str : Bool) (sz : Nat) (σ : Objs) (x y : V) : Ro :=
  match x with
  | .hs o off len s ag => do
    let ys ← srcOf str σ y
    let cs ← Objs.get σ o
    if s = sz ∧ ys.length ≤ len ∧ okRow ag sz ys ∧ off + ys.length * sz ≤ cs.length then
      some (.int .i64 ys.length, σ.set o (.cells (putAt cs off ((ys.flatMap V.cells).map V.ng))))
    else none
  | _ => none
def clrV (sz : Nat) (z : V) (σ : Objs) (x : V) : Ro :=
  match x with
  | .nils => some (.undef, σ)
  | .hs o off len s ag => do
    let cs ← Objs.get σ o
    if s = sz ∧ z.cells.length = sz ∧ off + len * sz ≤ cs.length ∧ okCells z.cells then
      some (.undef, σ.set o (.cells (putAt cs off ((List.replicate len z).flatMap V.cells))))
    else none
  | _ => none
def appGV (str ag : Bool) (sz bytes : Nat) (σ : Objs) (x y : V) : Ro := do
  let ys ← srcOf str σ y
  match x with
  | .hg o len s ag' => do
    let cs ← Objs.get σ o
    if s = sz ∧ okRow ag sz ys ∧ cs.length = len * sz ∧ (len + ys.length) * bytes ≤ rowMax then
      match ys with
      | [] => some (.hg o len sz ag, σ)
      | _ :: _ => some (.hg σ.length (len + ys.length) sz ag, σ.set o .gone ++ [.cells (cs ++ (ys.flatMap V.cells).map V.ng)])
    else none
  | .nils =>
    match ys with
    | [] => some (.nils, σ)
    | _ :: _ =>
      if okRow ag sz ys ∧ ys.length * bytes ≤ rowMax then some (.hg σ.length ys.length sz ag, σ ++ [.cells ((ys.flatMap V.cells).map V.ng)]) else none
  | _ => none
def callvV (σ : Objs) (x : V) (args : List V) : Ro :=
  match x with
  | .fn f first caps => M.call f (((first ++ args) ++ caps).map V.ng) σ
  | _ => none
def pu (x : Option V) : Option V := x.map V.ng
def allocV (z : List V) (σ : Objs) : Ro := match okCells z with | true => some (.ptr σ.length 0, σ ++ [.cells z]) | false => none
def isEff : Ins → Bool
  | .alloc _ | .box _ | .store .. | .loadT _ | .appH .. | .bytesH _ | .mkmp | .mset .. | .call .. | .callv .. | .calli .. | .callT .. | .rng _ | .nxt _ | .cpy .. | .clr .. | .appG .. => true
  | .buildSl _ _ _ _ _ h => h
  | .mkSl _ _ _ _ _ _ h => h
  | _ => false
def valV (A T : Arg → V) (σ : Objs) (i : Ins) : Option V :=
  match i with
  | .mv x tk => match tk with | true => some (T x) | false => some (A x)
  | .buildSl ag sz len z parts _ => buildFV ag sz len z (parts.map fun (i, x) => (i, A x))
  | .buildG ag sz len z parts => buildGV ag sz len z (parts.map fun (i, x) => (i, A x))
  | .mark x => markV (T x)
  | .app str ag sz bytes x y tk => match tk with | true => appV str ag sz bytes σ (T x) (A y) | false => appV str ag sz bytes σ (A x) (A y)
  | .mkSl ag sz bytes z l c _ => mkFV ag sz bytes z (A l) (A c)
  | .conv .strBytes x => eC σ .strBytes (A x)
  | i => pu (evPure A σ i)
def effV (A T : Arg → V) (σ : Objs) (i : Ins) : Ro :=
  match i with
  | .alloc z => allocV z σ
  | .box x => boxV σ (A x)
  | .buildSl ag sz len z parts _ => buildHV ag sz len z (parts.map fun (i, x) => (i, A x)) σ
  | .store sz p x tk => match tk with | true => stV σ sz (A p) (A x) (T x) | false => stV σ sz (A p) (A x) (A x)
  | .loadT x => loadTV σ (A x)
  | .appH str ag sz bytes x y => appHV str ag sz bytes σ (A x) (A y)
  | .bytesH x => bytesHV σ (A x)
  | .mkSl ag sz bytes z l c _ => mkHV ag sz bytes z (A l) (A c) σ
  | .mkmp => some (.mp σ.length, σ ++ [.mp []])
  | .mset kk m k x => msetV kk σ (A m) (A k) (A x)
  | .call f args => M.call f (args.map A) σ
  | .callv x args => callvV M σ (A x) (args.map A)
  | .calli x ms args => calliV M σ (A x) ms (args.map A)
  | .callT f args j => M.call f (args.zipIdx.map fun p => if p.2 = j then T p.1 else A p.1) σ
  | .rng x => rngV σ (A x)
  | .nxt x => nxtV σ (A x)
  | .cpy str sz x y => cpyV str sz σ (A x) (A y)
  | .clr sz z x => clrV sz z σ (A x)
  | .appG str ag sz bytes x y => appGV str ag sz bytes σ (T x) (A y)
  | _ => none
theorem valV_eq {A T : Arg → V} {σ : Objs} {i : Ins} (h : isEff i = false) : evIns M.call A T σ i = (valV A T σ i).map fun v => (v, σ) := by
  have pc : ∀ x : Option V, (x.bind fun v => some (v.ng, σ)) = (pu x).map fun v => (v, σ) := fun x => by cases x <;> rfl
  have pc2 : ∀ x : Option V, (x.bind fun v => some (v, σ)) = x.map fun v => (v, σ) := fun x => by cases x <;> rfl
  cases i with
  | alloc z => cases h
  | box x => cases h
  | store => cases h
  | loadT => cases h
  | appH => cases h
  | bytesH => cases h
  | mkmp => cases h
  | mset => cases h
  | call => cases h
  | callv => cases h
  | calli => cases h
  | callT => cases h
  | rng => cases h
  | nxt => cases h
  | cpy => cases h
  | clr => cases h
  | appG => cases h
  | no => rfl
  | mv x tk => cases tk <;> rfl
  | buildSl ag sz len z parts hh =>
    cases hh with
    | true => cases h
    | false =>
      simp only [valV, evIns, buildFV, Bool.false_eq_true, if_false, Option.bind_eq_bind]
      cases laySl sz (List.replicate len z) (parts.map fun x => (x.1, A x.2)) with
      | none => rfl
      | some xs =>
        simp only [Option.bind_some]
        split <;> rfl
  | buildG ag sz len z parts =>
    simp only [valV, evIns, buildGV, Option.bind_eq_bind]
    cases laySl sz (List.replicate len z) (parts.map fun x => (x.1, A x.2)) with
    | none => rfl
    | some xs =>
      simp only [Option.bind_some]
      split <;> rfl
  | mark x =>
    simp only [valV, evIns, markV]
    generalize T x = v
    cases v with
    | sl xs c => cases c <;> rfl
    | _ => rfl
  | app str ag sz bytes x y tk =>
    cases tk <;>
    · simp only [valV, evIns, appV, Option.bind_eq_bind, if_true, Bool.false_eq_true, if_false]
      cases srcOf str σ (A y) with
      | none => rfl
      | some ys => simp only [Option.bind_some]; exact pc2 _
  | mkSl ag sz bytes z l c hh =>
    cases hh with
    | true => cases h
    | false =>
      simp only [valV, evIns, mkFV, Bool.false_eq_true, if_false, Option.bind_eq_bind]
      cases intOf (A l) with
      | none => rfl
      | some l =>
        cases intOf (A c) with
        | none => rfl
        | some c =>
          simp only [Option.bind_some]
          split <;> rfl
  | conv c x =>
    cases c with
    | strBytes => simp only [valV, evIns, Option.bind_eq_bind]; exact pc2 _
    | _ => simp only [valV, evIns, Option.bind_eq_bind]; exact pc _
  | _ => simp only [valV, evIns, Option.bind_eq_bind]; exact pc _
theorem effV_eq {A T : Arg → V} {σ : Objs} {i : Ins} (h : isEff i = true) : evIns M.call A T σ i = effV M A T σ i := by
  cases i with
  | alloc z => simp only [effV, evIns, allocV]; cases okCells z <;> rfl
  | box x => rfl
  | loadT x => rfl
  | appH => rfl
  | bytesH => rfl
  | mkmp => rfl
  | mset kk m k x => rfl
  | call => rfl
  | callv => rfl
  | calli x ms args =>
    have hb : ∀ (o : Option V) (f : V → Ro), o.bind f = bd o f := fun o f => by cases o <;> rfl
    simp only [effV, evIns, calliV, Option.bind_eq_bind, hb]
    cases A x <;> rfl
  | callT => rfl
  | rng => rfl
  | nxt => rfl
  | cpy => rfl
  | clr => rfl
  | appG => rfl
  | buildSl ag sz len z parts hh =>
    cases hh with
    | true => simp only [effV, evIns, buildHV, if_true]
    | false => cases h
  | mkSl ag sz bytes z l c hh =>
    cases hh with
    | true => simp only [effV, evIns, mkHV, if_true]
    | false => cases h
  | store sz p x tk =>
    cases tk <;>
    · simp only [effV, evIns, stV, if_true, Bool.false_eq_true, if_false]
      generalize A p = pv
      cases pv with
      | ptr o off =>
        simp only [Option.bind_eq_bind]
        cases Objs.get σ o with
        | none => rfl
        | some cs =>
          simp only [Option.bind_some]
          split
          · generalize A x = xv
            cases xv <;> rfl
          · rfl
      | _ => rfl
  | _ => cases h
def gdv (g : V) (t : Bool) (x : Option V) : Option V :=
  match g with
  | .bool b => if b == t then x else some .undef
  | .undef => some .undef
  | _ => none
def gdp (g : V) (t : Bool) (x : Ro) (σ : Objs) : Ro :=
  match g with
  | .bool b => if b == t then x else some (.undef, σ)
  | .undef => some (.undef, σ)
  | _ => none
def insK (ρ : List V) (σ : Objs) (k : V → Objs → Ro) (i : Ins) : Ro :=
  match isEff i with
  | false => bd (valV (arg M.G ρ) (argT M.G ρ) σ i) fun v => k v σ
  | true => bd (effV M (arg M.G ρ) (argT M.G ρ) σ i) fun p => k p.1 p.2
theorem insK_eq (ρ : List V) (σ : Objs) (k : V → Objs → Ro) (i : Ins) : insK M ρ σ k i = bd (evIns M.call (arg M.G ρ) (argT M.G ρ) σ i) fun p => k p.1 p.2 := by
  unfold insK
  cases h : isEff i with
  | false => simp only [valV_eq M h, bd_map]
  | true => simp only [effV_eq M h]
def stepK (s : Step) (k : List V → Objs → Ro) (ρ : List V) (σ : Objs) : Ro :=
  match s.gd with
  | none => insK M ρ σ (fun v σ' => k (put (unslot ρ s.ins.takes.1 s.ins.takes.2) s.dst v) σ') s.ins
  | some (g, b) =>
    match s.ins.takes.2 with
    | true => gd (ρ.getD g .undef) b (insK M ρ σ (fun v σ' => k (put (unslot ρ s.ins.takes.1 s.ins.takes.2) s.dst v) σ') s.ins) (k (put ρ s.dst .undef) σ)
    | false =>
      match isEff s.ins with
      | false => bd (gdv (ρ.getD g .undef) b (valV (arg M.G ρ) (argT M.G ρ) σ s.ins)) fun v => k (put ρ s.dst v) σ
      | true => bd (gdp (ρ.getD g .undef) b (effV M (arg M.G ρ) (argT M.G ρ) σ s.ins) σ) fun p => k (put ρ s.dst p.1) p.2
def pk (k : List V → Objs → Ro) (p : List V × Objs) : Ro := k p.1 p.2
theorem ev1_bd (s : Step) (k : List V → Objs → Ro) (ρ : List V) (σ : Objs) : bd (ev1 M.G M.call s ρ σ) (pk k) = insK M ρ σ (fun v σ' => k (put (unslot ρ s.ins.takes.1 s.ins.takes.2) s.dst v) σ') s.ins := by
  rw [insK_eq]
  unfold ev1
  simp only [Option.bind_eq_bind]
  cases evIns M.call (arg M.G ρ) (argT M.G ρ) σ s.ins <;> rfl
theorem stepK_eq (s : Step) (k : List V → Objs → Ro) (ρ : List V) (σ : Objs) : stepK M s k ρ σ = bd (evStep M.G M.call s ρ σ) (pk k) := by
  unfold stepK evStep wanted
  cases hs : s.gd with
  | none => simp only [Option.bind_eq_bind, Option.bind_some, if_true]; exact (ev1_bd M s k ρ σ).symm
  | some p =>
    obtain ⟨g, b⟩ := p
    simp only
    generalize ρ.getD g .undef = gv
    have hu : s.ins.takes.2 = false → unslot ρ s.ins.takes.1 s.ins.takes.2 = ρ := fun h => by rw [h]; cases s.ins.takes.1 <;> rfl
    cases ht : s.ins.takes.2 with
    | true =>
      rw [ht] at hu
      simp only
      have h1 := ev1_bd M s k ρ σ
      rw [ht] at h1
      cases gv with
      | bool t =>
        simp only [gd, Option.bind_eq_bind, Option.bind_some]
        cases t == b
        · rfl
        · exact h1.symm
      | _ => rfl
    | false =>
      simp only
      have h1 := ev1_bd M s k ρ σ
      rw [hu ht] at h1
      unfold insK at h1
      cases he : isEff s.ins with
      | false =>
        rw [he] at h1
        simp only
        cases gv with
        | bool t =>
          simp only [gdv, Option.bind_eq_bind, Option.bind_some]
          cases t == b
          · rfl
          · exact h1.symm
        | _ => rfl
      | true =>
        rw [he] at h1
        simp only
        cases gv with
        | bool t =>
          simp only [gdp, Option.bind_eq_bind, Option.bind_some]
          cases t == b
          · rfl
          · exact h1.symm
        | _ => rfl
def forceL : List V → (List V → Ro) → Ro
  | [], k => k []
  | x :: xs, k => forceL xs fun ys => k (x :: ys)
theorem forceL_eq : ∀ (l : List V) (k : List V → Ro), forceL l k = k l
  | [], k => rfl
  | x :: xs, k => by unfold forceL; rw [forceL_eq xs]
def stepsK : List Step → (List V → Objs → Ro) → List V → Objs → Ro
  | [], k, ρ, σ => k ρ σ
  | s :: r, k, ρ, σ => stepK M s (fun ρ' σ' => forceL ρ' fun ρ'' => stepsK r k ρ'' σ') ρ σ
theorem stepsK_eq : ∀ (l : List Step) (k : List V → Objs → Ro) (ρ : List V) (σ : Objs), stepsK M l k ρ σ = bd (evSteps M.G M.call l ρ σ) (pk k)
  | [], k, ρ, σ => rfl
  | s :: r, k, ρ, σ => by
    simp only [stepsK, evSteps, stepK_eq, forceL_eq, Option.bind_eq_bind, bd_bind]
    congr 1
    funext p
    obtain ⟨ρ', σ'⟩ := p
    simp only [pk]
    exact stepsK_eq r k ρ' σ'
def lockS (seen : List Rd) (σ : Objs) : Option Objs := lockC σ (seen.filterMap Rd.cell)
def openS (seen : List Rd) (σ σ1 : Objs) : Option Objs := (openC σ1 (seen.filterMap Rd.cell)).bind fun σ' => if seen.all (stable σ σ') then some σ' else none
def rdLoad (ag : Bool) (sz : Nat) (x : V) : Rd := match x with | .ptr o off => .same false o off (if ag then sz else 1) | _ => .none
def rdLoadT (σ : Objs) (x : V) : Rd :=
  match x with
  | .ptr o off =>
    match (Objs.get σ o).bind (·[off]?) with
    | some (.sl _ (.gr _)) => .took o off
    | _ => .same true o off 1
  | _ => .none
def rdOf (A : Arg → V) (σ : Objs) : Ins → Rd
  | .load ag sz x => rdLoad ag sz (A x)
  | .loadT x => rdLoadT σ (A x)
  | .alloc _ | .box _ => .made σ.length
  | .mkSl _ _ _ _ _ _ h => if h then .made σ.length else .none
  | _ => .none
theorem rdOf_eq (A : Arg → V) (σ : Objs) (i : Ins) : rdOf A σ i = reads A σ i := by cases i <;> rfl
def rdG (g : V) (b : Bool) (r : Rd) : Rd := match g with | .bool t => if t == b then r else .none | _ => .none
theorem rdG_eq (gv : V) (b : Bool) (r : Rd) : rdG gv b r = if ((match gv with | .bool t => some (t == b) | .undef => some false | _ => none : Option Bool).getD false) = true then r else .none := by cases gv <;> simp [rdG]
def drwK (past : List Rd) : List DS → (List V → Objs → Ro) → List V → Objs → Ro
  | [], k, ρ, σ => k ρ σ
  | d :: r, k, ρ, σ =>
    bd (lockS (d.un.map fun k => past.getD k .none) σ) fun σ0 =>
      stepK M d.s (fun ρ1 σ1 => forceL ρ1 fun ρ' => bd (openS (d.un.map fun k => past.getD k .none) σ σ1) fun σ' =>
        drwK (past ++ [match d.s.gd with | none => rdOf (arg M.G ρ) σ d.s.ins | some (g, b) => rdG (ρ.getD g .undef) b (rdOf (arg M.G ρ) σ d.s.ins)]) r k ρ' σ') ρ σ0
theorem past_eq (ρ : List V) (σ : Objs) (g : Option (Nat × Bool)) (i : Ins) : (match g with | none => rdOf (arg M.G ρ) σ i | some (g, b) => rdG (ρ.getD g .undef) b (rdOf (arg M.G ρ) σ i)) = if (wanted ρ g).getD false then reads (arg M.G ρ) σ i else .none := by
  rw [rdOf_eq]
  cases g with
  | none => simp [wanted]
  | some p =>
    obtain ⟨g, b⟩ := p
    exact rdG_eq (ρ.getD g .undef) b (reads (arg M.G ρ) σ i)
theorem drwK_eq : ∀ (l : List DS) (past : List Rd) (k : List V → Objs → Ro) (ρ : List V) (σ : Objs), drwK M past l k ρ σ = bd (evDrw M.G M.call past l ρ σ) (pk k)
  | [], past, k, ρ, σ => rfl
  | d :: r, past, k, ρ, σ => by
    simp only [drwK, evDrw, lockS, openS, past_eq, Option.bind_eq_bind, stepK_eq, forceL_eq, bd_bind]
    congr 1
    funext σ0
    congr 1
    funext p
    obtain ⟨ρ', σ1⟩ := p
    simp only [pk]
    congr 1
    funext σ'
    split
    · rw [bd_some]; exact drwK_eq r _ k ρ' σ'
    · rfl
def compL (live : List Nat) : Nat → List V → List V
  | _, [] => []
  | i, x :: xs => if live.contains i then x :: compL live (i + 1) xs else compL live (i + 1) xs
def expd (live : List Nat) : Nat → Nat → Nat → List V → List V
  | _, 0, _, _ => []
  | i, n + 1, p, vs => if live.contains i then vs.getD p .undef :: expd live (i + 1) n (p + 1) vs else .any :: expd live (i + 1) n p vs
def cutL (n : Nat) (σ : Objs) (live : List Nat) : Nat → List V → (List V → Ro) → Ro
  | _, [], k => k []
  | i, x :: xs, k => if live.contains i then bd (fz n σ fzD x) fun y => cutL n σ live (i + 1) xs fun ys => k (y :: ys) else cutL n σ live (i + 1) xs k
theorem cutL_eq (n : Nat) (σ : Objs) (live : List Nat) : ∀ (xs : List V) (i : Nat) (k : List V → Ro), cutL n σ live i xs k = bd (cutSlots n σ live i xs) fun ys => k (compL live i ys)
  | [], i, k => rfl
  | x :: xs, i, k => by
    rw [s_cons]
    simp only [cutL]
    by_cases h : live.contains i = true
    · simp only [if_pos h, bd_bind]
      congr 1
      funext y
      rw [cutL_eq n σ live xs (i + 1)]
      cases cutSlots n σ live (i + 1) xs with
      | none => rfl
      | some ys => simp only [Option.bind_some, bd_some, compL, if_pos h]
    · simp only [if_neg h]
      rw [cutL_eq n σ live xs (i + 1)]
      simp only [Option.bind_some]
      cases cutSlots n σ live (i + 1) xs with
      | none => rfl
      | some ys => simp only [Option.bind_some, bd_some, compL, if_neg h]
theorem ks_cons {n : Nat} {σg : Objs} {live kp ks : List Nat} {i : Nat} {x : V} {xs : List V} : keepSlots n σg live kp ks i (x :: xs) = (keepSlot n σg live kp ks i x).bind fun y => (keepSlots n σg live kp ks (i + 1) xs).bind fun ys => some (y :: ys) := rfl
theorem expd_compL (n : Nat) (σg : Objs) (live kp ks : List Nat) : ∀ (xs : List V) (i : Nat) (ys : List V), keepSlots n σg live kp ks i xs = some ys → ∀ (p : Nat) (vs : List V), vs.drop p = compL live i ys → expd live i xs.length p vs = ys
  | [], i, ys, h, p, vs, _ => by cases h; rfl
  | x :: xs, i, ys, h, p, vs, hv => by
    rw [ks_cons] at h
    simp only [Option.bind_eq_some_iff, Option.some.injEq] at h
    obtain ⟨y, hy, zs, hz, he⟩ := h
    subst he
    simp only [List.length_cons, expd]
    unfold keepSlot at hy
    by_cases hc : live.contains i = true
    · simp only [if_pos hc]
      simp only [compL, if_pos hc] at hv
      have h0 : vs[p]? = some y := by
        have := congrArg (·[0]?) hv
        simpa using this
      have h1 : vs.drop (p + 1) = compL live (i + 1) zs := by
        have := congrArg List.tail hv
        simpa [List.tail_drop] using this
      rw [expd_compL n σg live kp ks xs (i + 1) zs hz (p + 1) vs h1]
      simp [List.getD_eq_getElem?_getD, h0]
    · simp only [if_neg hc]
      simp only [compL, if_neg hc] at hv
      simp only [if_neg hc] at hy
      cases hy
      rw [expd_compL n σg live kp ks xs (i + 1) zs hz p vs hv]
theorem keep_expd {n : Nat} {σ : Objs} {live kp : List Nat} {ρ ρ' : List V} {σ' : Objs} (h : keepAll n live kp ρ σ = some (ρ', σ')) : ρ'.length = ρ.length ∧ expd live 0 ρ.length 0 (compL live 0 ρ') = ρ' := by
  unfold keepAll at h
  simp only [Option.bind_eq_bind, Option.bind_eq_some_iff, Option.some.injEq, Prod.mk.injEq] at h
  obtain ⟨r, hr, s, hs, rfl, rfl⟩ := h
  exact ⟨(keepSlots_get 0 _ _ hr).1, expd_compL _ _ _ _ _ _ 0 _ hr 0 _ rfl⟩
def cutK (n : Nat) (live kp : List Nat) (ρ : List V) (σ : Objs) (k : List V → Objs → Ro) : Ro :=
  match kp with
  | [] => cutL n σ live 0 ρ fun ys => bd (cuO n σ) fun σ' => k ys σ'
  | _ :: _ => bd (keepAll n live kp ρ σ) fun p => k (compL live 0 p.1) p.2
theorem cutK_eq (n : Nat) (live kp : List Nat) (ρ : List V) (σ : Objs) (k : List V → Objs → Ro) : cutK n live kp ρ σ k = bd (keepAll n live kp ρ σ) fun p => k (compL live 0 p.1) p.2 := by
  cases kp with
  | cons _ _ => rfl
  | nil =>
    simp only [cutK, cutL_eq, keepAll_nil, bd_bind]
    rfl
def turnK (nt n : Nat) (lin lout kp : List Nat) (K : Kt) (rec : List V → Objs → Ro) : Kt where
  nm := fun ρ σ => cutK n lin kp ρ σ rec
  ex := fun i ρ σ => cutK n lout kp ρ σ fun ys σ' => K.ex i (expd lout 0 nt 0 ys) σ'
  rt := fun ρ σ => cutK n lout kp ρ σ fun ys σ' => K.rt (expd lout 0 nt 0 ys) σ'
def cdK : Cd → Kt → List V → Objs → Ro
  | .skip, K, ρ, σ => K.nm ρ σ
  | .ret, K, ρ, σ => K.rt ρ σ
  | .exit id, K, ρ, σ => K.ex id ρ σ
  | .ops _ l, K, ρ, σ => stepsK M l K.nm ρ σ
  | .drw _ l, K, ρ, σ => drwK M [] l K.nm ρ σ
  | .seq a b, K, ρ, σ => cdK a ⟨fun ρ' σ' => cdK b K ρ' σ', K.ex, K.rt⟩ ρ σ
  | .cond c a b, K, ρ, σ => br (arg M.G ρ c) (cdK a K ρ σ) (cdK b K ρ σ)
  | .block id b, K, ρ, σ => cdK b ⟨K.nm, fun i ρ' σ' => if i = id then K.nm ρ' σ' else K.ex i ρ' σ', K.rt⟩ ρ σ
  | .loop lin lout kp b, K, ρ, σ => cutL σ.length σ lin 0 ρ fun ys => M.fx (fun rec vs σ1 => cdK b (turnK ρ.length σ.length lin lout kp K rec) (expd lin 0 ρ.length 0 vs) σ1) ys σ
  | .no, _, _, _ => none
end
def iter (F : (List V → Objs → Ro) → List V → Objs → Ro) (k : Nat) : List V → Objs → Ro :=
  Nat.rec (fun _ _ => none) (fun _ r => F r) k
def Len (n : Nat) : Ran → Prop
  | some (_, ρ, _) => ρ.length = n
  | none => True
section
variable {G : GV} {call : FuncId → List V → Objs → Ro}
theorem step_len {s : Step} {ρ ρ' : List V} {σ σ' : Objs} (h : evStep G call s ρ σ = some (ρ', σ')) : ρ'.length = ρ.length := by
  unfold evStep at h
  simp only [Option.bind_eq_bind, Option.bind_eq_some_iff] at h
  obtain ⟨b, _, h⟩ := h
  split at h
  · unfold ev1 at h
    simp only [Option.bind_eq_bind, Option.bind_eq_some_iff] at h
    obtain ⟨p, _, h⟩ := h
    cases h
    rw [put_len, unslot_len]
  · cases h; exact put_len _ _
theorem steps_len : ∀ {l : List Step} {ρ ρ' : List V} {σ σ' : Objs}, evSteps G call l ρ σ = some (ρ', σ') → ρ'.length = ρ.length
  | [], ρ, ρ', σ, σ', h => by cases h; rfl
  | s :: r, ρ, ρ', σ, σ', h => by
    simp only [evSteps, Option.bind_eq_bind, Option.bind_eq_some_iff] at h
    obtain ⟨p, h1, h2⟩ := h
    rw [steps_len (l := r) (ρ := p.1) (σ := p.2) h2, step_len (ρ' := p.1) (σ' := p.2) h1]
theorem drw_len : ∀ {l : List DS} {past : List Rd} {ρ ρ' : List V} {σ σ' : Objs}, evDrw G call past l ρ σ = some (ρ', σ') → ρ'.length = ρ.length
  | [], past, ρ, ρ', σ, σ', h => by cases h; rfl
  | d :: r, past, ρ, ρ', σ, σ', h => by
    simp only [evDrw, Option.bind_eq_bind, Option.bind_eq_some_iff] at h
    obtain ⟨σ0, _, p, h1, σ2, _, h2⟩ := h
    split at h2
    · rw [drw_len (l := r) (ρ := p.1) (σ := σ2) h2, step_len (ρ' := p.1) (σ' := p.2) h1]
    · cases h2
theorem loopN_len {lin lout kp : List Nat} {n nt : Nat} {rd : List V → Objs → Ran} (hrd : ∀ ρ σ, ρ.length = nt → Len nt (rd ρ σ)) : ∀ (k : Nat) (ρ : List V) (σ : Objs), ρ.length = nt → Len nt (loopN lin lout kp n rd k ρ σ)
  | 0, ρ, σ, h => trivial
  | k + 1, ρ, σ, h => by
    unfold loopN
    have h1 := hrd ρ σ h
    cases hr : rd ρ σ with
    | none => trivial
    | some p =>
      obtain ⟨e, ρ', σ'⟩ := p
      rw [hr] at h1
      have h1' : ρ'.length = nt := h1
      cases e <;>
      · simp only [Option.bind_eq_bind]
        cases hc : keepAll n _ kp ρ' σ' with
        | none => trivial
        | some p =>
          have := (keep_expd (ρ' := p.1) (σ' := p.2) hc).1.trans h1'
          first
            | exact loopN_len hrd k p.1 p.2 this
            | exact this
theorem cd_len (fuel : Nat) : ∀ (c : Cd) (ρ : List V) (σ : Objs), Len ρ.length (evCd G call fuel c ρ σ)
  | .skip, ρ, σ => rfl
  | .ret, ρ, σ => rfl
  | .exit id, ρ, σ => rfl
  | .ops _ l, ρ, σ => by
    simp only [evCd]
    cases h : evSteps G call l ρ σ with
    | none => trivial
    | some p => exact steps_len (ρ' := p.1) (σ' := p.2) h
  | .drw _ l, ρ, σ => by
    simp only [evCd]
    cases h : evDrw G call [] l ρ σ with
    | none => trivial
    | some p => exact drw_len (ρ' := p.1) (σ' := p.2) h
  | .seq a b, ρ, σ => by
    have ha := cd_len fuel a ρ σ
    simp only [evCd]
    cases h : evCd G call fuel a ρ σ with
    | none => trivial
    | some p =>
      obtain ⟨e, ρ', σ'⟩ := p
      rw [h] at ha
      have ha' : ρ'.length = ρ.length := ha
      cases e with
      | norm => simp only; rw [← ha']; exact cd_len fuel b ρ' σ'
      | ex i => exact ha
      | ret => exact ha
  | .cond c a b, ρ, σ => by
    simp only [evCd]
    split
    · exact cd_len fuel a ρ σ
    · exact cd_len fuel b ρ σ
    · trivial
  | .block id b, ρ, σ => by
    have hb := cd_len fuel b ρ σ
    simp only [evCd]
    cases h : evCd G call fuel b ρ σ with
    | none => trivial
    | some p =>
      obtain ⟨e, ρ', σ'⟩ := p
      rw [h] at hb
      cases e with
      | norm => exact hb
      | ex i => simp only; split <;> exact hb
      | ret => exact hb
  | .no, ρ, σ => trivial
  | .loop lin lout kp b, ρ, σ => by
    simp only [evCd, Option.bind_eq_bind]
    cases hc : cutSlots σ.length σ lin 0 ρ with
    | none => trivial
    | some ys =>
      simp only [Option.bind_some]
      have hl := (keepSlots_get 0 _ _ ((keepSlots_nil 0 ρ).trans hc)).1
      refine loopN_len (nt := ρ.length) (fun ρ1 σ1 h1 => ?_) _ _ _ hl
      rw [← h1]; exact cd_len fuel b ρ1 σ1
end
theorem loop_kc {nt n : Nat} {lin lout kp : List Nat} {rd : List V → Objs → Ran} {K : Kt} {F : (List V → Objs → Ro) → List V → Objs → Ro}
    (hlen : ∀ ρ σ, ρ.length = nt → Len nt (rd ρ σ))
    (hF : ∀ rec ρ σ, ρ.length = nt → ∀ vs, expd lin 0 nt 0 vs = ρ → F rec vs σ = kc (turnK nt n lin lout kp K rec) (rd ρ σ)) :
    ∀ (k : Nat) (ρ : List V) (σ : Objs), ρ.length = nt → ∀ vs, expd lin 0 nt 0 vs = ρ → iter F k vs σ = kc K (loopN lin lout kp n rd k ρ σ)
  | 0, ρ, σ, hl, vs, he => rfl
  | k + 1, ρ, σ, hl, vs, he => by
    show F (iter F k) vs σ = _
    rw [hF (iter F k) ρ σ hl vs he]
    unfold loopN
    have h1 := hlen ρ σ hl
    cases hr : rd ρ σ with
    | none => rfl
    | some p =>
      obtain ⟨e, ρ', σ'⟩ := p
      rw [hr] at h1
      have h1' : ρ'.length = nt := h1
      cases e with
      | norm =>
        show cutK n lin kp ρ' σ' (iter F k) = _
        rw [cutK_eq]
        simp only [Option.bind_eq_bind]
        cases hc : keepAll n lin kp ρ' σ' with
        | none => rfl
        | some p =>
          obtain ⟨ys, s⟩ := p
          obtain ⟨g1, g2⟩ := keep_expd hc
          rw [h1'] at g2
          exact loop_kc hlen hF k ys s (g1.trans h1') _ g2
      | ex i =>
        show cutK n lout kp ρ' σ' (fun ys σ'' => K.ex i (expd lout 0 nt 0 ys) σ'') = _
        rw [cutK_eq]
        simp only [Option.bind_eq_bind]
        cases hc : keepAll n lout kp ρ' σ' with
        | none => rfl
        | some p =>
          obtain ⟨ys, s⟩ := p
          obtain ⟨g1, g2⟩ := keep_expd hc
          rw [h1'] at g2
          simp only [bd_some, g2, Option.bind_some]
          rfl
      | ret =>
        show cutK n lout kp ρ' σ' (fun ys σ'' => K.rt (expd lout 0 nt 0 ys) σ'') = _
        rw [cutK_eq]
        simp only [Option.bind_eq_bind]
        cases hc : keepAll n lout kp ρ' σ' with
        | none => rfl
        | some p =>
          obtain ⟨ys, s⟩ := p
          obtain ⟨g1, g2⟩ := keep_expd hc
          rw [h1'] at g2
          simp only [bd_some, g2, Option.bind_some]
          rfl
theorem cdK_eq (G : GV) (call : FuncId → List V → Objs → Ro) (k : Nat) : ∀ (c : Cd) (K : Kt) (ρ : List V) (σ : Objs),
    cdK ⟨G, call, fun F => iter F k⟩ c K ρ σ = kc K (evCd G call k c ρ σ)
  | .skip, K, ρ, σ => rfl
  | .ret, K, ρ, σ => rfl
  | .exit id, K, ρ, σ => rfl
  | .ops _ l, K, ρ, σ => by
    simp only [cdK, evCd, stepsK_eq]
    cases evSteps G call l ρ σ <;> rfl
  | .drw _ l, K, ρ, σ => by
    simp only [cdK, evCd, drwK_eq]
    cases evDrw G call [] l ρ σ <;> rfl
  | .seq a b, K, ρ, σ => by
    simp only [cdK, evCd]
    rw [cdK_eq G call k a]
    cases h : evCd G call k a ρ σ with
    | none => rfl
    | some p =>
      obtain ⟨e, ρ', σ'⟩ := p
      cases e with
      | norm => exact cdK_eq G call k b K ρ' σ'
      | ex i => rfl
      | ret => rfl
  | .cond c a b, K, ρ, σ => by
    simp only [cdK, evCd]
    rw [cdK_eq G call k a, cdK_eq G call k b]
    generalize arg G ρ c = v
    cases v with
    | bool t => cases t <;> rfl
    | _ => rfl
  | .block id b, K, ρ, σ => by
    simp only [cdK, evCd]
    rw [cdK_eq G call k b]
    cases evCd G call k b ρ σ with
    | none => rfl
    | some p =>
      obtain ⟨e, ρ', σ'⟩ := p
      cases e with
      | norm => rfl
      | ex i => simp only [kc]; split <;> rfl
      | ret => rfl
  | .no, K, ρ, σ => rfl
  | .loop lin lout kp b, K, ρ, σ => by
    simp only [cdK, evCd, Option.bind_eq_bind]
    rw [cutL_eq]
    cases hc : cutSlots σ.length σ lin 0 ρ with
    | none => rfl
    | some ys =>
      simp only [Option.bind_some, bd_some]
      have hc' := (keepSlots_nil 0 ρ).trans hc
      have hl := (keepSlots_get 0 _ _ hc').1
      refine loop_kc (rd := evCd G call k b) (fun ρ1 σ1 h1 => by rw [← h1]; exact cd_len k b ρ1 σ1) (fun rec ρ1 σ1 h1 vs he => ?_) k ys σ hl _ (expd_compL _ _ _ _ _ _ 0 _ hc' 0 _ rfl)
      rw [he]
      exact cdK_eq G call k b _ ρ1 σ1
def resC (σ : Objs) (ag : Bool) (sz : Nat) (p : V) : Option V :=
  match p with
  | .ptr o off => do
    let cs ← Objs.get σ o
    part ag sz cs off
  | _ => none
def resK (ρ : List V) (σ : Objs) : List Res → (List V → Ro) → Ro
  | [], k => k []
  | .tmp t :: r, k => resK ρ σ r fun vs => k (ρ.getD t .undef :: vs)
  | .cell t ag sz :: r, k => bd (resC σ ag sz (ρ.getD t .undef)) fun v => resK ρ σ r fun vs => k (v :: vs)
def oK (keep : Bool) (v : V) : Option V := if v.one || agOk true v then some (keepIf keep v) else none
def nK (n : Nat) (σ : Objs) (r : V) : Ro := bd (cuO n σ) fun σ' => bd (fz n σ fzD r) fun r' => some (r', σ')
def endE (esc : Bool) (n : Nat) (σ : Objs) (r : V) : Ro :=
  match esc with
  | false => nK n σ r
  | true => endV true n σ r
def finK (esc keep : Bool) (res : List Res) (n : Nat) (ρ : List V) (σ : Objs) : Ro :=
  match res with
  | [r] => resK ρ σ [r] fun vs => bd (oK keep (vs.headD .undef)) (endE esc n σ)
  | rs => resK ρ σ rs fun vs => endE esc n σ (.tup (vs.map V.ng))
theorem endE_eq (esc : Bool) (n : Nat) (σ : Objs) (r : V) : endE esc n σ r = endV esc n σ r := by
  cases esc with
  | true => rfl
  | false =>
    simp only [endE, nK, endV]
    cases cuO n σ with
    | none => rfl
    | some s =>
      simp only [bd_some, Option.bind_some]
      cases fz n σ fzD r <;> rfl
theorem resK_eq (ρ : List V) (σ : Objs) : ∀ (rs : List Res) (k : List V → Ro), resK ρ σ rs k = bd (rs.mapM (resV ρ σ)) k
  | [], k => by rw [List.mapM_nil]; rfl
  | .tmp t :: r, k => by
    simp only [resK, List.mapM_cons, Option.bind_eq_bind, resV, Option.bind_some, bd_bind, resK_eq ρ σ r]
    congr 1
  | .cell t ag sz :: r, k => by
    simp only [resK, List.mapM_cons, Option.bind_eq_bind, bd_bind, resK_eq ρ σ r]
    have : resC σ ag sz (ρ.getD t .undef) = resV ρ σ (.cell t ag sz) := rfl
    rw [this]
    congr 1
theorem finK_eq (esc keep : Bool) (res : List Res) (n : Nat) (ρ : List V) (σ : Objs) :
    finK esc keep res n ρ σ = bd (Ev.results keep ρ σ res) fun r => endV esc n σ r := by
  match res with
  | [] => simp only [finK, Ev.results, resK_eq, Option.bind_eq_bind, bd_bind, List.mapM_nil, endE_eq]; rfl
  | [r] =>
    simp only [finK, Ev.results, resK_eq, Option.bind_eq_bind, bd_bind, List.mapM_cons, List.mapM_nil, funext (endE_eq esc n σ)]
    congr 1
  | a :: b :: r =>
    simp only [finK, Ev.results, resK_eq, Option.bind_eq_bind, bd_bind, endE_eq]
    congr 1
def fnK (M : Mach) (F : Fn) (args : List V) (σ : Objs) : Ro :=
  cdK M F.body ⟨finK F.esc F.keep F.res σ.length, fun _ _ _ => none, finK F.esc F.keep F.res σ.length⟩ (args ++ List.replicate (F.nt - args.length) .undef) σ
theorem fnK_eq (G : GV) (call : FuncId → List V → Objs → Ro) (k : Nat) {F : Fn} (args : List V) (σ : Objs) : fnK ⟨G, call, fun F => iter F k⟩ F args σ = evFn G call F k args σ := by
  unfold fnK evFn
  rw [cdK_eq]
  simp only [Option.bind_eq_bind]
  have hb2 : ∀ {α : Type} (x : Option α) (f : α → Ro), bd x f = x.bind f := fun x f => by cases x <;> rfl
  cases evCd G call k F.body (args ++ List.replicate (F.nt - args.length) .undef) σ with
  | none => rfl
  | some p =>
    obtain ⟨o, ρ, σ'⟩ := p
    cases o with
    | norm => simp only [kc, finK_eq, hb2, Option.bind_some]
    | ret => simp only [kc, finK_eq, hb2, Option.bind_some]
    | ex i => rfl
end Go.Ev
set_option linter.unusedSimpArgs false
set_option linter.unusedVariables false
set_option linter.unusedSectionVars false
namespace Go.Ev
open Go
section
variable {α β : Type}
def Grow (s : Nat → Option β) : Prop := ∀ n r, s n = some r → s (n + 1) = some r
theorem Grow.le {s : Nat → Option β} (h : Grow s) {n r} (hn : s n = some r) : ∀ d, s (n + d) = some r
  | 0 => hn
  | d + 1 => h _ _ (h.le hn d)
theorem Grow.le' {s : Nat → Option β} (h : Grow s) {n m r} (hn : s n = some r) (hm : n ≤ m) : s m = some r := by
  obtain ⟨d, rfl⟩ := Nat.exists_eq_add_of_le hm
  exact h.le hn d
structure IsLim (s : Nat → Option β) (x : Option β) : Prop where
  up : Grow s
  iff : ∀ r, x = some r ↔ ∃ n, s n = some r
theorem IsLim.uniq {s : Nat → Option β} {x y : Option β} (h : IsLim s x) (g : IsLim s y) : x = y := by
  cases x with
  | none =>
    cases y with
    | none => rfl
    | some r => exact absurd ((h.iff r).2 ((g.iff r).1 rfl)) (by simp)
  | some r => exact ((g.iff r).2 ((h.iff r).1 rfl)).symm
theorem IsLim.const (x : Option β) : IsLim (fun _ => x) x := ⟨fun _ _ h => h, fun r => ⟨fun h => ⟨0, h⟩, fun ⟨_, h⟩ => h⟩⟩
theorem IsLim.shift {s : Nat → Option β} {x : Option β} (h : IsLim s x) (d : Nat) : IsLim (fun n => s (n + d)) x := by
  refine ⟨fun n r hn => ?_, fun r => ⟨fun hx => ?_, fun ⟨n, hn⟩ => (h.iff r).2 ⟨_, hn⟩⟩⟩
  · have := h.up _ _ hn
    rw [show n + 1 + d = n + d + 1 by omega]; exact this
  · obtain ⟨n, hn⟩ := (h.iff r).1 hx
    exact ⟨n, h.up.le hn d⟩
theorem IsLim.bd {s : Nat → Option α} {x : Option α} {f : Nat → α → Ro} {g : α → Ro} (h : IsLim s x) (hf : ∀ a, IsLim (fun n => f n a) (g a)) : IsLim (fun n => Ev.bd (s n) (f n)) (Ev.bd x g) := by
  refine ⟨fun n r hn => ?_, fun r => ⟨fun hx => ?_, fun ⟨n, hn⟩ => ?_⟩⟩
  · cases hs : s n with
    | none => simp only [hs] at hn; cases hn
    | some a =>
      simp only [hs] at hn
      simp only [h.up _ _ hs]
      exact (hf a).up _ _ hn
  · cases hs : x with
    | none => rw [hs] at hx; cases hx
    | some a =>
      rw [hs] at hx
      obtain ⟨n, hn⟩ := (h.iff a).1 hs
      obtain ⟨m, hm⟩ := ((hf a).iff r).1 hx
      refine ⟨n + m, ?_⟩
      simp only [h.up.le hn m]
      rw [show n + m = m + n by omega]
      exact (hf a).up.le hm n
  · cases hs : s n with
    | none => simp only [hs] at hn; cases hn
    | some a =>
      simp only [hs] at hn
      rw [(h.iff a).2 ⟨n, hs⟩]
      exact ((hf a).iff r).2 ⟨n, hn⟩
theorem IsLim.diag {s : Nat → Nat → Option β} {x : Nat → Option β} {y : Option β} (h : ∀ j, IsLim (fun k => s j k) (x j)) (hj : ∀ k, Grow fun j => s j k) (hy : IsLim x y) (d : Nat) : IsLim (fun k => s (k + d) k) y := by
  refine ⟨fun k r hk => ?_, fun r => ⟨fun hx => ?_, fun ⟨k, hk⟩ => ?_⟩⟩
  · have h1 := hj k _ _ hk
    have h2 := (h (k + d + 1)).up _ _ h1
    rw [show k + 1 + d = k + d + 1 by omega]; exact h2
  · obtain ⟨j, hj'⟩ := (hy.iff r).1 hx
    obtain ⟨k, hk⟩ := ((h j).iff r).1 hj'
    refine ⟨j + k, ?_⟩
    have h1 : s j (j + k) = some r := by rw [show j + k = k + j by omega]; exact (h j).up.le hk j
    exact (hj (j + k)).le' h1 (by omega)
  · exact (hy.iff r).2 ⟨k + d, ((h _).iff r).2 ⟨k, hk⟩⟩
noncomputable def lim (s : Nat → Option β) : Option β := by
  classical exact if h : ∃ r n, s n = some r then some h.choose else none
theorem lim_is {s : Nat → Option β} (h : Grow s) : IsLim s (lim s) := by
  refine ⟨h, fun r => ?_⟩
  unfold lim
  split
  · rename_i hx
    obtain ⟨n, hn⟩ := hx.choose_spec
    refine ⟨fun he => ?_, fun ⟨m, hm⟩ => ?_⟩
    · cases he; exact ⟨n, hn⟩
    · have h1 := h.le hn m
      have h2 := h.le hm n
      rw [show m + n = n + m by omega] at h2
      rw [h1] at h2
      exact h2
  · rename_i hx
    exact ⟨fun he => (by cases he), fun ⟨m, hm⟩ => absurd ⟨r, m, hm⟩ hx⟩
end
def Le {β : Type} (x y : Option β) : Prop := ∀ r, x = some r → y = some r
theorem Le.refl {β : Type} (x : Option β) : Le x x := fun _ h => h
theorem Le.bd {α : Type} {x y : Option α} {f g : α → Ro} (h : Le x y) (hf : ∀ a, Le (f a) (g a)) : Le (Ev.bd x f) (Ev.bd y g) := by
  intro r hr
  cases hx : x with
  | none => rw [hx] at hr; cases hr
  | some a => rw [hx] at hr; rw [h a hx]; exact hf a r hr
abbrev Rk := List V → Objs → Ro
def LeF (f g : Rk) : Prop := ∀ ρ σ, Le (f ρ σ) (g ρ σ)
def LeK (K L : Kt) : Prop := LeF K.nm L.nm ∧ (∀ i, LeF (K.ex i) (L.ex i)) ∧ LeF K.rt L.rt
def LeM (M N : Mach) : Prop := M.G = N.G ∧ ∀ f args σ, Le (M.call f args σ) (N.call f args σ)
section
variable {M N : Mach}
theorem eff_le (h : LeM M N) (A T : Arg → V) (σ : Objs) (i : Ins) : Le (effV M A T σ i) (effV N A T σ i) := by
  cases i with
  | call f args => exact h.2 _ _ _
  | callv x args =>
    show Le (callvV M σ (A x) (args.map A)) (callvV N σ (A x) (args.map A))
    unfold callvV
    split
    · exact h.2 _ _ _
    · exact Le.refl _
  | callT f args j => exact h.2 _ _ _
  | calli x ms args =>
    show Le (calliV M σ (A x) ms (args.map A)) (calliV N σ (A x) ms (args.map A))
    unfold calliV
    split
    · split
      · exact h.2 _ _ _
      · exact Le.bd (Le.refl _) fun z => h.2 _ _ _
      · exact Le.refl _
    · exact Le.refl _
  | _ => exact Le.refl _
theorem ins_le (h : LeM M N) {k l : V → Objs → Ro} (hk : ∀ v σ, Le (k v σ) (l v σ)) (ρ : List V) (σ : Objs) (i : Ins) : Le (insK M ρ σ k i) (insK N ρ σ l i) := by
  unfold insK
  rw [h.1]
  split
  · exact Le.bd (Le.refl _) fun v => hk v σ
  · exact Le.bd (eff_le h _ _ _ _) fun p => hk _ _
theorem gdp_le {x y : Ro} (h : Le x y) (g : V) (t : Bool) (σ : Objs) : Le (gdp g t x σ) (gdp g t y σ) := by
  unfold gdp
  split
  · split
    · exact h
    · exact Le.refl _
  · exact Le.refl _
  · exact Le.refl _
theorem gd_le {x y x' y' : Ro} (h : Le x y) (h' : Le x' y') (g : V) (t : Bool) : Le (gd g t x x') (gd g t y y') := by
  unfold gd
  split
  · split
    · exact h
    · exact h'
  · exact h'
  · exact Le.refl _
theorem br_le {x y x' y' : Ro} (h : Le x y) (h' : Le x' y') (g : V) : Le (br g x x') (br g y y') := by
  unfold br
  split
  · exact h
  · exact h'
  · exact Le.refl _
theorem step_le (h : LeM M N) {k l : Rk} (hk : LeF k l) (s : Step) (ρ : List V) (σ : Objs) : Le (stepK M s k ρ σ) (stepK N s l ρ σ) := by
  unfold stepK
  split
  · exact ins_le h (fun v σ => hk _ _) _ _ _
  · split
    · exact gd_le (ins_le h (fun v σ => hk _ _) _ _ _) (hk _ _) _ _
    · split
      · rw [h.1]; exact Le.bd (Le.refl _) fun v => hk _ _
      · rw [h.1]; exact Le.bd (gdp_le (eff_le h _ _ _ _) _ _ _) fun v => hk _ _
theorem steps_le (h : LeM M N) : ∀ (s : List Step) {k l : Rk}, LeF k l → LeF (stepsK M s k) (stepsK N s l)
  | [], k, l, hk => hk
  | s :: r, k, l, hk => fun ρ σ => by
    simp only [stepsK, forceL_eq]
    exact step_le h (fun ρ' σ' => steps_le h r hk ρ' σ') s ρ σ
theorem drw_le (h : LeM M N) : ∀ (s : List DS) (past : List Rd) {k l : Rk}, LeF k l → LeF (drwK M past s k) (drwK N past s l)
  | [], past, k, l, hk => hk
  | d :: r, past, k, l, hk => fun ρ σ => by
    simp only [drwK, forceL_eq]
    rw [h.1]
    exact Le.bd (Le.refl _) fun σ0 => step_le h (fun ρ' σ1 => Le.bd (Le.refl _) fun σ' => drw_le h r _ hk ρ' σ') d.s ρ σ0
theorem cutL_le (n : Nat) (σ : Objs) (live : List Nat) : ∀ (xs : List V) (i : Nat) {k l : List V → Ro}, (∀ ys, Le (k ys) (l ys)) → Le (cutL n σ live i xs k) (cutL n σ live i xs l)
  | [], i, k, l, hk => hk _
  | x :: xs, i, k, l, hk => by
    unfold cutL
    split
    · exact Le.bd (Le.refl _) fun y => cutL_le n σ live xs (i + 1) fun ys => hk _
    · exact cutL_le n σ live xs (i + 1) hk
theorem cutK_le (n : Nat) (live kp : List Nat) (ρ : List V) (σ : Objs) {k l : Rk} (hk : LeF k l) : Le (cutK n live kp ρ σ k) (cutK n live kp ρ σ l) := by
  rw [cutK_eq, cutK_eq]
  exact Le.bd (Le.refl _) fun p => hk _ _
theorem turn_le {K L : Kt} (hK : LeK K L) {f g : Rk} (hf : LeF f g) (nt n : Nat) (lin lout kp : List Nat) : LeK (turnK nt n lin lout kp K f) (turnK nt n lin lout kp L g) :=
  ⟨fun ρ σ => cutK_le _ _ _ _ _ hf, fun i ρ σ => cutK_le _ _ _ _ _ fun ys σ' => hK.2.1 i _ _, fun ρ σ => cutK_le _ _ _ _ _ fun ys σ' => hK.2.2 _ _⟩
def LeX (M N : Mach) : Prop := ∀ F F' : Rk → Rk, (∀ f g, LeF f g → LeF (F f) (F g)) → (∀ f g, LeF f g → LeF (F' f) (F' g)) → (∀ f g, LeF f g → LeF (F f) (F' g)) → LeF (M.fx F) (N.fx F')
theorem cd_le {M N : Mach} : ∀ (c : Cd) (_ : LeM M N) (_ : LeX M N) (_ : LeM M M) (_ : LeX M M) (_ : LeM N N) (_ : LeX N N) {K L : Kt}, LeK K L → LeF (cdK M c K) (cdK N c L)
  | .skip, h, hx, a, b, c, d, K, L, hK => hK.1
  | .ret, h, hx, a, b, c, d, K, L, hK => hK.2.2
  | .exit id, h, hx, a, b, c, d, K, L, hK => hK.2.1 id
  | .ops _ l, h, hx, a, b, c, d, K, L, hK => steps_le h l hK.1
  | .drw _ l, h, hx, a, b, c, d, K, L, hK => drw_le h l [] hK.1
  | .seq x y, h, hx, a, b, c, d, K, L, hK => fun ρ σ => cd_le x h hx a b c d (K := ⟨fun ρ' σ' => cdK M y K ρ' σ', K.ex, K.rt⟩) (L := ⟨fun ρ' σ' => cdK N y L ρ' σ', L.ex, L.rt⟩) ⟨fun ρ' σ' => cd_le y h hx a b c d hK ρ' σ', hK.2.1, hK.2.2⟩ ρ σ
  | .cond v x y, h, hx, a, b, c, d, K, L, hK => fun ρ σ => by
    simp only [cdK]
    rw [h.1]
    exact br_le (cd_le x h hx a b c d hK ρ σ) (cd_le y h hx a b c d hK ρ σ) _
  | .block id x, h, hx, a, b, c, d, K, L, hK => fun ρ σ => cd_le x h hx a b c d (K := ⟨K.nm, fun i ρ' σ' => if i = id then K.nm ρ' σ' else K.ex i ρ' σ', K.rt⟩) (L := ⟨L.nm, fun i ρ' σ' => if i = id then L.nm ρ' σ' else L.ex i ρ' σ', L.rt⟩) ⟨hK.1, fun i ρ' σ' => by
      show Le (if i = id then K.nm ρ' σ' else K.ex i ρ' σ') (if i = id then L.nm ρ' σ' else L.ex i ρ' σ')
      split
      · exact hK.1 _ _
      · exact hK.2.1 _ _ _, hK.2.2⟩ ρ σ
  | .no, h, hx, a, b, c, d, K, L, hK => fun ρ σ => Le.refl _
  | .loop lin lout kp x, h, hx, a, b, c, d, K, L, hK => fun ρ σ => by
    simp only [cdK]
    refine cutL_le _ _ _ _ _ fun ys => hx _ _ (fun f g hf vs σ1 => ?_) (fun f g hf vs σ1 => ?_) (fun f g hf vs σ1 => ?_) ys σ
    · exact cd_le x a b a b a b (turn_le ⟨fun _ _ => Le.refl _, fun _ _ _ => Le.refl _, fun _ _ => Le.refl _⟩ hf _ _ _ _ _) _ _
    · exact cd_le x c d c d c d (turn_le ⟨fun _ _ => Le.refl _, fun _ _ _ => Le.refl _, fun _ _ => Le.refl _⟩ hf _ _ _ _ _) _ _
    · exact cd_le x h hx a b c d (turn_le hK hf _ _ _ _ _) _ _
theorem iter_le {F F' : Rk → Rk} (hm : ∀ f g, LeF f g → LeF (F f) (F' g)) : ∀ {k l : Nat}, k ≤ l → LeF (iter F k) (iter F' l)
  | 0, l, _, ρ, σ => fun r h => by cases h
  | k + 1, 0, h, ρ, σ => by omega
  | k + 1, l + 1, h, ρ, σ => hm _ _ (iter_le hm (by omega)) ρ σ
end
section
variable (G : GV)
def mk (call : FuncId → List V → Objs → Ro) (k : Nat) : Mach := ⟨G, call, fun F => iter F k⟩
theorem mk_G (call : FuncId → List V → Objs → Ro) (k : Nat) : (mk G call k).G = G := rfl
noncomputable def fixL (F : Rk → Rk) : Rk := fun vs σ => lim fun j => iter F j vs σ
noncomputable def mkL (E : FuncId → List V → Objs → Ro) : Mach := ⟨G, E, fixL⟩
theorem mkL_G (E : FuncId → List V → Objs → Ro) : (mkL G E).G = G := rfl
def FLim (f : Nat → Rk) (g : Rk) : Prop := ∀ ρ σ, IsLim (fun n => f n ρ σ) (g ρ σ)
structure KLim (K : Nat → Kt) (L : Kt) : Prop where
  nm : FLim (fun n => (K n).nm) L.nm
  ex : ∀ i, FLim (fun n => (K n).ex i) (L.ex i)
  rt : FLim (fun n => (K n).rt) L.rt
variable {G}
variable {call : Nat → FuncId → List V → Objs → Ro} {E : FuncId → List V → Objs → Ro}
theorem eff_lim (hE : ∀ f args σ, IsLim (fun n => call n f args σ) (E f args σ)) (d : Nat) (A T : Arg → V) (σ : Objs) (i : Ins) : IsLim (fun n => effV (mk G (call n) (n + d)) A T σ i) (effV (mkL G E) A T σ i) := by
  cases i with
  | call f args => exact hE _ _ _
  | callv x args =>
    show IsLim (fun n => callvV (mk G (call n) (n + d)) σ (A x) (args.map A)) (callvV (mkL G E) σ (A x) (args.map A))
    unfold callvV
    split
    · exact hE _ _ _
    · exact IsLim.const _
  | callT f args j => exact hE _ _ _
  | calli x ms args =>
    show IsLim (fun n => calliV (mk G (call n) (n + d)) σ (A x) ms (args.map A)) (calliV (mkL G E) σ (A x) ms (args.map A))
    unfold calliV
    split
    · split
      · exact hE _ _ _
      · exact IsLim.bd (IsLim.const _) fun z => hE _ _ _
      · exact IsLim.const _
    · exact IsLim.const _
  | _ => exact IsLim.const _
theorem ins_lim (hE : ∀ f args σ, IsLim (fun n => call n f args σ) (E f args σ)) (d : Nat) {k : Nat → V → Objs → Ro} {l : V → Objs → Ro} (hk : ∀ v σ, IsLim (fun n => k n v σ) (l v σ)) (ρ : List V) (σ : Objs) (i : Ins) :
    IsLim (fun n => insK (mk G (call n) (n + d)) ρ σ (k n) i) (insK (mkL G E) ρ σ l i) := by
  unfold insK
  show IsLim (fun n => match isEff i with | false => bd (valV (arg G ρ) (argT G ρ) σ i) fun v => k n v σ | true => bd (effV (mk G (call n) (n + d)) (arg G ρ) (argT G ρ) σ i) fun p => k n p.1 p.2)
    (match isEff i with | false => bd (valV (arg G ρ) (argT G ρ) σ i) fun v => l v σ | true => bd (effV (mkL G E) (arg G ρ) (argT G ρ) σ i) fun p => l p.1 p.2)
  cases isEff i with
  | false => exact IsLim.bd (IsLim.const _) fun v => hk v σ
  | true => exact IsLim.bd (eff_lim hE d _ _ _ _) fun p => hk _ _
theorem gdp_lim {x : Nat → Ro} {y : Ro} (h : IsLim x y) (g : V) (t : Bool) (σ : Objs) : IsLim (fun n => gdp g t (x n) σ) (gdp g t y σ) := by
  unfold gdp
  split
  · split
    · exact h
    · exact IsLim.const _
  · exact IsLim.const _
  · exact IsLim.const _
theorem gd_lim {x x' : Nat → Ro} {y y' : Ro} (h : IsLim x y) (h' : IsLim x' y') (g : V) (t : Bool) : IsLim (fun n => gd g t (x n) (x' n)) (gd g t y y') := by
  unfold gd
  split
  · split
    · exact h
    · exact h'
  · exact h'
  · exact IsLim.const _
theorem br_lim {x x' : Nat → Ro} {y y' : Ro} (h : IsLim x y) (h' : IsLim x' y') (g : V) : IsLim (fun n => br g (x n) (x' n)) (br g y y') := by
  unfold br
  split
  · exact h
  · exact h'
  · exact IsLim.const _
theorem step_lim (hE : ∀ f args σ, IsLim (fun n => call n f args σ) (E f args σ)) (d : Nat) {k : Nat → Rk} {l : Rk} (hk : FLim k l) (s : Step) (ρ : List V) (σ : Objs) : IsLim (fun n => stepK (mk G (call n) (n + d)) s (k n) ρ σ) (stepK (mkL G E) s l ρ σ) := by
  unfold stepK
  cases s.gd with
  | none => exact ins_lim hE d (fun v σ => hk _ _) _ _ _
  | some p =>
    obtain ⟨g, b⟩ := p
    simp only [mk_G, mkL_G]
    cases s.ins.takes.2 with
    | true => exact gd_lim (ins_lim hE d (fun v σ => hk _ _) _ _ _) (hk _ _) _ _
    | false =>
      simp only
      cases isEff s.ins with
      | false => exact IsLim.bd (IsLim.const _) fun v => hk _ _
      | true => exact IsLim.bd (gdp_lim (eff_lim hE d _ _ _ _) _ _ _) fun v => hk _ _
theorem steps_lim (hE : ∀ f args σ, IsLim (fun n => call n f args σ) (E f args σ)) (d : Nat) : ∀ (s : List Step) {k : Nat → Rk} {l : Rk}, FLim k l → FLim (fun n => stepsK (mk G (call n) (n + d)) s (k n)) (stepsK (mkL G E) s l)
  | [], k, l, hk => hk
  | s :: r, k, l, hk => fun ρ σ => by
    simp only [stepsK, forceL_eq]
    exact step_lim hE d (fun ρ' σ' => steps_lim hE d r hk ρ' σ') s ρ σ
theorem drw_lim (hE : ∀ f args σ, IsLim (fun n => call n f args σ) (E f args σ)) (d : Nat) : ∀ (s : List DS) (past : List Rd) {k : Nat → Rk} {l : Rk}, FLim k l → FLim (fun n => drwK (mk G (call n) (n + d)) past s (k n)) (drwK (mkL G E) past s l)
  | [], past, k, l, hk => hk
  | s :: r, past, k, l, hk => fun ρ σ => by
    simp only [drwK, forceL_eq, mk_G, mkL_G]
    exact IsLim.bd (IsLim.const _) fun σ0 => step_lim hE d (fun ρ' σ1 => IsLim.bd (IsLim.const _) fun σ' => drw_lim hE d r _ hk ρ' σ') s.s ρ σ0
theorem cutL_lim (n : Nat) (σ : Objs) (live : List Nat) : ∀ (xs : List V) (i : Nat) {k : Nat → List V → Ro} {l : List V → Ro}, (∀ ys, IsLim (fun n => k n ys) (l ys)) → IsLim (fun m => cutL n σ live i xs (k m)) (cutL n σ live i xs l)
  | [], i, k, l, hk => hk _
  | x :: xs, i, k, l, hk => by
    unfold cutL
    cases live.contains i with
    | true => exact IsLim.bd (IsLim.const _) fun y => cutL_lim n σ live xs (i + 1) fun ys => hk _
    | false => exact cutL_lim n σ live xs (i + 1) hk
theorem cutK_lim (n : Nat) (live kp : List Nat) (ρ : List V) (σ : Objs) {k : Nat → Rk} {l : Rk} (hk : FLim k l) : IsLim (fun m => cutK n live kp ρ σ (k m)) (cutK n live kp ρ σ l) := by
  simp only [cutK_eq]
  exact IsLim.bd (IsLim.const _) fun p => hk _ _
theorem turn_lim {K : Nat → Kt} {L : Kt} (hK : KLim K L) {f : Nat → Rk} {g : Rk} (hf : FLim f g) (nt n : Nat) (lin lout kp : List Nat) : KLim (fun m => turnK nt n lin lout kp (K m) (f m)) (turnK nt n lin lout kp L g) :=
  ⟨fun ρ σ => cutK_lim _ _ _ _ _ hf, fun i ρ σ => cutK_lim _ _ _ _ _ fun ys σ' => hK.ex i _ _, fun ρ σ => cutK_lim _ _ _ _ _ fun ys σ' => hK.rt _ _⟩
def loopF (M : Mach) (b : Cd) (nt n : Nat) (lin lout kp : List Nat) (K : Kt) : Rk → Rk := fun rec vs σ => cdK M b (turnK nt n lin lout kp K rec) (expd lin 0 nt 0 vs) σ
theorem leM_mk {c e : FuncId → List V → Objs → Ro} (h : ∀ f args σ, Le (c f args σ) (e f args σ)) (k l : Nat) : LeM (mk G c k) (mk G e l) := ⟨rfl, h⟩
theorem leX_mk (c e : FuncId → List V → Objs → Ro) {k l : Nat} (h : k ≤ l) : LeX (mk G c k) (mk G e l) := fun _ _ _ _ hm => iter_le hm h
theorem leK_refl (K : Kt) : LeK K K := ⟨fun _ _ => Le.refl _, fun _ _ _ => Le.refl _, fun _ _ => Le.refl _⟩
theorem cd_le_mk (c : Cd) {e e' : FuncId → List V → Objs → Ro} (h : ∀ f args σ, Le (e f args σ) (e' f args σ)) {k l : Nat} (hkl : k ≤ l) {K L : Kt} (hK : LeK K L) : LeF (cdK (mk G e k) c K) (cdK (mk G e' l) c L) :=
  cd_le c (leM_mk h _ _) (leX_mk _ _ hkl) (leM_mk (fun _ _ _ => Le.refl _) _ _) (leX_mk _ _ (Nat.le_refl _)) (leM_mk (fun _ _ _ => Le.refl _) _ _) (leX_mk _ _ (Nat.le_refl _)) hK
theorem loopF_mono (e : FuncId → List V → Objs → Ro) (k : Nat) (b : Cd) (nt n : Nat) (lin lout kp : List Nat) (K : Kt) {f g : Rk} (h : LeF f g) : LeF (loopF (mk G e k) b nt n lin lout kp K f) (loopF (mk G e k) b nt n lin lout kp K g) :=
  fun vs σ => cd_le_mk b (fun _ _ _ => Le.refl _) (Nat.le_refl _) (turn_le (leK_refl K) h _ _ _ _ _) _ _
theorem iter_grow {F : Rk → Rk} (h : ∀ f g, LeF f g → LeF (F f) (F g)) (vs : List V) (σ : Objs) : Grow fun j => iter F j vs σ := fun j r hj => iter_le h (Nat.le_succ j) vs σ r hj
section
variable (hE : ∀ f args σ, IsLim (fun n => call n f args σ) (E f args σ))
include hE
theorem iter_lim (d : Nat) (b : Cd) (nt n : Nat) (lin lout kp : List Nat) {K : Nat → Kt} {L : Kt} (hK : KLim K L)
    (hb : ∀ {K : Nat → Kt} {L : Kt}, KLim K L → FLim (fun m => cdK (mk G (call m) (m + d)) b (K m)) (cdK (mkL G E) b L)) :
    ∀ j, FLim (fun m => iter (loopF (mk G (call m) (m + d)) b nt n lin lout kp (K m)) j) (iter (loopF (mkL G E) b nt n lin lout kp L) j)
  | 0 => fun _ _ => IsLim.const _
  | j + 1 => fun vs σ => hb (turn_lim hK (iter_lim d b nt n lin lout kp hK hb j) nt n lin lout kp) _ _
theorem fix_lim0 (d : Nat) (b : Cd) (nt n : Nat) (lin lout kp : List Nat) {K : Nat → Kt} {L : Kt} (hK : KLim K L)
    (hb : ∀ {K : Nat → Kt} {L : Kt}, KLim K L → FLim (fun m => cdK (mk G (call m) (m + d)) b (K m)) (cdK (mkL G E) b L)) (vs : List V) (σ : Objs) :
    IsLim (fun j => iter (loopF (mkL G E) b nt n lin lout kp L) j vs σ) (fixL (loopF (mkL G E) b nt n lin lout kp L) vs σ) := by
  refine lim_is fun j r hj => ?_
  have h1 := iter_lim hE d b nt n lin lout kp hK hb
  obtain ⟨m, hm⟩ := ((h1 j vs σ).iff r).1 hj
  exact ((h1 (j + 1) vs σ).iff r).2 ⟨m, iter_grow (fun f g h => loopF_mono _ _ _ _ _ _ _ _ _ h) vs σ j r hm⟩
theorem fix_lim (d e : Nat) (b : Cd) (nt n : Nat) (lin lout kp : List Nat) {K : Nat → Kt} {L : Kt} (hK : KLim K L)
    (hb : ∀ {K : Nat → Kt} {L : Kt}, KLim K L → FLim (fun m => cdK (mk G (call m) (m + d)) b (K m)) (cdK (mkL G E) b L)) (vs : List V) (σ : Objs) :
    IsLim (fun m => iter (loopF (mk G (call m) (m + d)) b nt n lin lout kp (K m)) (m + e) vs σ) (fixL (loopF (mkL G E) b nt n lin lout kp L) vs σ) :=
  IsLim.diag (s := fun j m => iter (loopF (mk G (call m) (m + d)) b nt n lin lout kp (K m)) j vs σ) (fun j => iter_lim hE d b nt n lin lout kp hK hb j vs σ)
    (fun m => iter_grow (fun f g h => loopF_mono _ _ _ _ _ _ _ _ _ h) vs σ) (fix_lim0 hE d b nt n lin lout kp hK hb vs σ) e
theorem cd_lim (d : Nat) : ∀ (c : Cd) {K : Nat → Kt} {L : Kt}, KLim K L → FLim (fun m => cdK (mk G (call m) (m + d)) c (K m)) (cdK (mkL G E) c L)
  | .skip, K, L, hK => hK.nm
  | .ret, K, L, hK => hK.rt
  | .exit id, K, L, hK => hK.ex id
  | .ops _ l, K, L, hK => steps_lim hE d l hK.nm
  | .drw _ l, K, L, hK => drw_lim hE d l [] hK.nm
  | .seq x y, K, L, hK => fun ρ σ => cd_lim d x (K := fun m => ⟨fun ρ' σ' => cdK (mk G (call m) (m + d)) y (K m) ρ' σ', (K m).ex, (K m).rt⟩) (L := ⟨fun ρ' σ' => cdK (mkL G E) y L ρ' σ', L.ex, L.rt⟩) ⟨fun ρ' σ' => cd_lim d y hK ρ' σ', hK.ex, hK.rt⟩ ρ σ
  | .cond v x y, K, L, hK => fun ρ σ => by
    show IsLim (fun m => br (arg G ρ v) (cdK (mk G (call m) (m + d)) x (K m) ρ σ) (cdK (mk G (call m) (m + d)) y (K m) ρ σ)) (br (arg G ρ v) (cdK (mkL G E) x L ρ σ) (cdK (mkL G E) y L ρ σ))
    exact br_lim (cd_lim d x hK ρ σ) (cd_lim d y hK ρ σ) _
  | .block id x, K, L, hK => fun ρ σ => by
    refine cd_lim d x (K := fun m => ⟨(K m).nm, fun i ρ' σ' => if i = id then (K m).nm ρ' σ' else (K m).ex i ρ' σ', (K m).rt⟩) (L := ⟨L.nm, fun i ρ' σ' => if i = id then L.nm ρ' σ' else L.ex i ρ' σ', L.rt⟩) ⟨hK.nm, fun i ρ' σ' => ?_, hK.rt⟩ ρ σ
    by_cases h : i = id
    · simp only [if_pos h]; exact hK.nm _ _
    · simp only [if_neg h]; exact hK.ex _ _ _
  | .no, K, L, hK => fun ρ σ => IsLim.const _
  | .loop lin lout kp x, K, L, hK => fun ρ σ => by
    show IsLim (fun m => cutL σ.length σ lin 0 ρ fun ys => iter (loopF (mk G (call m) (m + d)) x ρ.length σ.length lin lout kp (K m)) (m + d) ys σ) (cutL σ.length σ lin 0 ρ fun ys => fixL (loopF (mkL G E) x ρ.length σ.length lin lout kp L) ys σ)
    exact cutL_lim _ _ _ _ _ fun ys => fix_lim hE d d x _ _ _ _ _ hK (cd_lim d x) ys σ
theorem fix_unfold (b : Cd) (nt n : Nat) (lin lout kp : List Nat) (L : Kt) (vs : List V) (σ : Objs) :
    fixL (loopF (mkL G E) b nt n lin lout kp L) vs σ = loopF (mkL G E) b nt n lin lout kp L (fixL (loopF (mkL G E) b nt n lin lout kp L)) vs σ := by
  have hK : KLim (fun _ => L) L := ⟨fun _ _ => IsLim.const _, fun _ _ _ => IsLim.const _, fun _ _ => IsLim.const _⟩
  have h1 := fix_lim (G := G) hE 0 1 b nt n lin lout kp hK (cd_lim hE 0 b) vs σ
  have h0 := fix_lim (G := G) hE 0 0 b nt n lin lout kp hK (cd_lim hE 0 b)
  have h2 := cd_lim (G := G) hE 0 b (turn_lim hK h0 nt n lin lout kp) (expd lin 0 nt 0 vs) σ
  exact h1.uniq h2
end
end
def evK (C : Ctx) : Nat → FuncId → List V → Objs → Ro
  | 0, _, _, _ => none
  | n + 1, f, args, σ =>
    match C.prim f with
    | some h => h args σ
    | none =>
      match C.code f with
      | some F => fnK (mk C.G (evK C n) n) F args σ
      | none => none
theorem evK_ev {C : Ctx} : ∀ n, evK C n = ev C n
  | 0 => rfl
  | n + 1 => by
    funext f args σ
    simp only [evK, ev]
    cases C.prim f with
    | some h => rfl
    | none =>
      simp only
      cases hF : C.code f with
      | none => rfl
      | some F =>
        simp only
        rw [evK_ev n]
        exact fnK_eq C.G (ev C n) n args σ
theorem evK_up (C : Ctx) : ∀ n f args σ, Le (evK C n f args σ) (evK C (n + 1) f args σ)
  | 0, f, args, σ => fun r h => by cases h
  | n + 1, f, args, σ => by
    simp only [evK]
    cases C.prim f with
    | some h => exact Le.refl _
    | none =>
      simp only
      cases hF : C.code f with
      | none => exact Le.refl _
      | some F =>
        have ih := fun f args σ => evK_up C n f args σ
        simp only [evK] at ih
        exact cd_le_mk F.body (fun f args σ => evK_up C n f args σ) (Nat.le_succ n) (leK_refl _) _ _
noncomputable def E (C : Ctx) (f : FuncId) (args : List V) (σ : Objs) : Ro := lim fun n => evK C n f args σ
noncomputable def Mi (C : Ctx) : Mach := mkL C.G (E C)
theorem E_lim (C : Ctx) (f : FuncId) (args : List V) (σ : Objs) : IsLim (fun n => evK C n f args σ) (E C f args σ) := lim_is fun n r h => evK_up C n f args σ r h
theorem ev_of_E {C : Ctx} {f : FuncId} {args : List V} {σ : Objs} {r : V × Objs} (h : E C f args σ = some r) : ∃ n, ev C n f args σ = some r := by
  obtain ⟨n, hn⟩ := ((E_lim C f args σ).iff r).1 h
  exact ⟨n, by rw [← evK_ev n]; exact hn⟩
theorem E_fn {C : Ctx} {f : FuncId} {F : Fn} (hp : C.prim f = none) (hc : C.code f = some F) (args : List V) (σ : Objs) : E C f args σ = fnK (Mi C) F args σ := by
  have h1 := (E_lim C f args σ).shift 1
  have h2 : IsLim (fun n => evK C (n + 1) f args σ) (fnK (Mi C) F args σ) := by
    have e : (fun n => evK C (n + 1) f args σ) = fun n => fnK (mk C.G (evK C n) (n + 0)) F args σ := by
      funext n; simp only [evK, hp, hc, Nat.add_zero]
    rw [e]
    exact cd_lim (E_lim C) 0 F.body (K := fun _ => ⟨finK F.esc F.keep F.res σ.length, fun _ _ _ => none, finK F.esc F.keep F.res σ.length⟩) ⟨fun _ _ => IsLim.const _, fun _ _ _ => IsLim.const _, fun _ _ => IsLim.const _⟩ _ _
  exact h1.uniq h2
theorem E_prim {C : Ctx} {f : FuncId} {h : List V → Objs → Ro} (hp : C.prim f = some h) (args : List V) (σ : Objs) : E C f args σ = h args σ := by
  have h1 := (E_lim C f args σ).shift 1
  have h2 : IsLim (fun n => evK C (n + 1) f args σ) (h args σ) := by
    have e : (fun n => evK C (n + 1) f args σ) = fun n => h args σ := by funext n; simp only [evK, hp]
    rw [e]; exact IsLim.const _
  exact h1.uniq h2
structure Lp where
  nt : Nat
  lin : List Nat
  lout : List Nat
  kp : List Nat
  b : Cd
  K : Kt
def seek (M : Mach) (nt : Nat) : List (Nat × Rk) → List Bool → Cd → Kt → Lp
  | ns, p, .seq x y, K => match p with | false :: p => seek M nt ns p x ⟨fun ρ σ => cdK M y K ρ σ, K.ex, K.rt⟩ | _ => seek M nt ns p.tail y K
  | ns, p, .cond _ x y, K => match p with | false :: p => seek M nt ns p x K | _ => seek M nt ns p.tail y K
  | ns, p, .block id x, K => seek M nt ns p x ⟨K.nm, fun i ρ σ => if i = id then K.nm ρ σ else K.ex i ρ σ, K.rt⟩
  | ns, p, .loop lin lout kp x, K => match ns with | [] => ⟨nt, lin, lout, kp, x, K⟩ | (n, r) :: ns => seek M nt ns p x (turnK nt n lin lout kp K r)
  | _, _, _, K => ⟨nt, [], [], [], .skip, K⟩
def Lp.F (l : Lp) (M : Mach) (n : Nat) : Rk → Rk := loopF M l.b l.nt n l.lin l.lout l.kp l.K
def topK (F : Fn) (n : Nat) : Kt := ⟨finK F.esc F.keep F.res n, fun _ _ _ => none, finK F.esc F.keep F.res n⟩
theorem loop_at (C : Ctx) (l : Lp) (n : Nat) {L : Rk} {B : Rk → Rk} (hB : l.F (Mi C) n = B) (hL : L = fixL B) (vs : List V) (σ : Objs) : L vs σ = B L vs σ := by
  subst hL
  have h := fix_unfold (G := C.G) (E_lim C) l.b l.nt n l.lin l.lout l.kp l.K vs σ
  have e : loopF (mkL C.G (E C)) l.b l.nt n l.lin l.lout l.kp l.K = B := hB
  rw [e] at h
  exact h
theorem Mi_call {C : Ctx} : (Mi C).call = E C := rfl
end Go.Ev
set_option linter.unusedSimpArgs false
set_option linter.unusedVariables false
namespace Go.Ev
open Go
def pV (c a b : V) : Option V :=
  match c with
  | .bool t => some (if t then a else b)
  | _ => none
def buildV (z : List V) (parts : List (Nat × Nat × V)) : Option V := (lay z parts).map V.agg
end Go.Ev
set_option linter.unusedSimpArgs false
set_option linter.unusedVariables false
namespace Go.Ev
open Go
attribute [congr] bd_congr br_congr gd_congr
attribute [congr] ite_congr
attribute [go_sem] bd_some bd_none br_bool
theorem pu_some {v : V} : pu (some v) = some v.ng := rfl
theorem pu_none : pu none = none := rfl
theorem gdv_b {c : Bool} {x : Option V} : gdv (.bool c) true x = if c = true then x else some .undef := by cases c <;> rfl
theorem gdv_n {c : Bool} {x : Option V} : gdv (.bool c) false x = if c = true then some .undef else x := by cases c <;> rfl
theorem gdv_u {t : Bool} {x : Option V} : gdv .undef t x = some .undef := rfl
theorem gdp_b {c : Bool} {x : Ro} {σ : Objs} : gdp (.bool c) true x σ = if c = true then x else some (.undef, σ) := by cases c <;> rfl
theorem gdp_n {c : Bool} {x : Ro} {σ : Objs} : gdp (.bool c) false x σ = if c = true then some (.undef, σ) else x := by cases c <;> rfl
theorem gdp_u {t : Bool} {x : Ro} {σ : Objs} : gdp .undef t x σ = some (.undef, σ) := rfl
theorem gd_b {c : Bool} {x y : Ro} : gd (.bool c) true x y = if c = true then x else y := by cases c <;> rfl
theorem gd_n {c : Bool} {x y : Ro} : gd (.bool c) false x y = if c = true then y else x := by cases c <;> rfl
theorem gd_u {t : Bool} {x y : Ro} : gd .undef t x y = y := rfl
section
variable {p : Prop} [Decidable p]
theorem ite_some {α : Type} {a b : α} : (if p then some a else some b) = some (if p then a else b) := by split <;> rfl
theorem ite_pair {α β : Type} {a b : α} {s : β} : (if p then (a, s) else (b, s)) = (if p then a else b, s) := by split <;> rfl
theorem ite_and {d : Bool} : (if p then V.bool d else V.bool false) = V.bool (decide p && d) := by by_cases h : p <;> simp [h]
theorem ite_or {d : Bool} : (if p then V.bool true else V.bool d) = V.bool (decide p || d) := by by_cases h : p <;> simp [h]
theorem ite_nogr {a b : V} : (if p then a else b).ng = if p then a.ng else b.ng := by split <;> rfl
theorem ite_cf {c : Bool} {α : Type} {x y : α} : (if c = false then x else y) = if c = true then y else x := by cases c <;> rfl
theorem ite_np {α : Type} {x y : α} : (if ¬ p then x else y) = if p then y else x := by by_cases h : p <;> simp [h]
theorem gdv_ite {a b : V} {t : Bool} {x : Option V} : gdv (if p then a else b) t x = if p then gdv a t x else gdv b t x := by split <;> rfl
theorem gdp_ite {a b : V} {t : Bool} {x : Ro} {σ : Objs} : gdp (if p then a else b) t x σ = if p then gdp a t x σ else gdp b t x σ := by split <;> rfl
theorem gd_ite {a b : V} {t : Bool} {x y : Ro} : gd (if p then a else b) t x y = if p then gd a t x y else gd b t x y := by split <;> rfl
theorem bd_ite {α : Type} {x y : Option α} {f : α → Ro} : bd (if p then x else y) f = if p then bd x f else bd y f := by split <;> rfl
theorem pu_ite {x y : Option V} : pu (if p then x else y) = if p then pu x else pu y := by split <;> rfl
theorem ite_int {k : IntKind} {a b : Int} : (if p then V.int k a else V.int k b) = V.int k (if p then a else b) := by split <;> rfl
theorem ite_str {a b : List UInt8} : (if p then V.str a else V.str b) = V.str (if p then a else b) := by split <;> rfl
theorem iteT {α : Type} {a b : α} : (if True then a else b) = a := rfl
theorem iteF {α : Type} {a b : α} : (if False then a else b) = b := rfl
end
theorem gdv_tt {x : Option V} : gdv (.bool true) true x = x := rfl
theorem gdv_ff {x : Option V} : gdv (.bool false) false x = x := rfl
theorem gdv_tf {x : Option V} : gdv (.bool true) false x = some .undef := rfl
theorem gdv_ft {x : Option V} : gdv (.bool false) true x = some .undef := rfl
theorem gdp_tt {x : Ro} {σ : Objs} : gdp (.bool true) true x σ = x := rfl
theorem gdp_ff {x : Ro} {σ : Objs} : gdp (.bool false) false x σ = x := rfl
theorem gdp_tf {x : Ro} {σ : Objs} : gdp (.bool true) false x σ = some (.undef, σ) := rfl
theorem gdp_ft {x : Ro} {σ : Objs} : gdp (.bool false) true x σ = some (.undef, σ) := rfl
theorem gd_tt {x y : Ro} : gd (.bool true) true x y = x := rfl
theorem gd_ff {x y : Ro} : gd (.bool false) false x y = x := rfl
theorem gd_tf {x y : Ro} : gd (.bool true) false x y = y := rfl
theorem gd_ft {x y : Ro} : gd (.bool false) true x y = y := rfl
attribute [go_sem high] gdv_tt gdv_ff gdv_tf gdv_ft gdp_tt gdp_ff gdp_tf gdp_ft gd_tt gd_ff gd_tf gd_ft br_t br_f
attribute [go_sem] pu_some pu_none gdv_b gdv_n gdv_u gdp_b gdp_n gdp_u gd_b gd_n gd_u gdv_ite gdp_ite gd_ite Bool.decide_eq_true ite_int ite_str ite_cf ite_np ite_some ite_pair ite_and ite_or ite_nogr bd_ite pu_ite iteT iteF decide_eq_true_eq decide_eq_false_iff_not Bool.and_eq_true Bool.or_eq_true Bool.not_eq_true' Bool.not_eq_true Bool.true_eq_false Bool.false_eq_true if_true if_false not_true_eq_false not_false_eq_true and_true true_and and_false false_and or_true true_or or_false false_or Bool.decide_and Bool.decide_or decide_true decide_false
theorem n_nilm : V.nilm.ng = .nilm := rfl
theorem n_nilf : V.nilf.ng = .nilf := rfl
theorem n_mp {o : Nat} : (V.mp o).ng = .mp o := rfl
attribute [go_sem] n_int n_bool n_str n_undef n_any n_nilp n_ptr n_eptr n_nils n_sl n_hs n_agg n_tup n_ifc n_nili n_fn n_nilm n_nilf n_mp Mi_call
section
variable {k : IntKind} {e : EqK} {a b : Int} {s t : List UInt8}
theorem b_add : eB .add e (.int k a) (.int k b) = some (.int k (k.wrap (a + b))) := by simp [eB]
theorem b_sub : eB .sub e (.int k a) (.int k b) = some (.int k (k.wrap (a - b))) := by simp [eB]
theorem b_mul : eB .mul e (.int k a) (.int k b) = some (.int k (k.wrap (a * b))) := by simp [eB]
theorem b_quo (h : ¬ b = 0) : eB .quo e (.int k a) (.int k b) = some (.int k (k.wrap (a.tdiv b))) := by simp [eB, h]
theorem b_rem (h : ¬ b = 0) : eB .rem e (.int k a) (.int k b) = some (.int k (a.tmod b)) := by simp [eB, h]
theorem b_eql : eB .eql e (.int k a) (.int k b) = some (.bool (decide (a = b))) := by simp [eB]; by_cases h : a = b <;> simp [h]
theorem b_neq : eB .neq e (.int k a) (.int k b) = some (.bool (decide (¬ a = b))) := by simp [eB]; by_cases h : a = b <;> simp [h]
theorem b_lss : eB .lss e (.int k a) (.int k b) = some (.bool (decide (a < b))) := by simp [eB]
theorem b_leq : eB .leq e (.int k a) (.int k b) = some (.bool (decide (a ≤ b))) := by simp [eB]
theorem b_gtr : eB .gtr e (.int k a) (.int k b) = some (.bool (decide (b < a))) := by simp [eB]
theorem b_geq : eB .geq e (.int k a) (.int k b) = some (.bool (decide (b ≤ a))) := by simp [eB]
theorem bs_add (h : s.length + t.length ≤ strMax) : eB .add e (.str s) (.str t) = some (.str (s ++ t)) := by simp [eB, h]
theorem bs_eql : eB .eql e (.str s) (.str t) = some (.bool (decide (s = t))) := by simp [eB]
theorem bs_neq : eB .neq e (.str s) (.str t) = some (.bool (decide (¬ s = t))) := by simp [eB]
theorem bs_lss : eB .lss e (.str s) (.str t) = some (.bool (bytesLess s t)) := by simp [eB]
theorem bb_eql {x y : Bool} : eB .eql .bool (.bool x) (.bool y) = some (.bool (decide (x = y))) := by cases x <;> cases y <;> rfl
theorem bb_neq {x y : Bool} : eB .neq .bool (.bool x) (.bool y) = some (.bool (decide (¬ x = y))) := by cases x <;> cases y <;> rfl
theorem u_neg : evUn .neg (.int k a) = some (.int k (k.wrap (0 - a))) := rfl
theorem u_not {x : Bool} : evUn .not (.bool x) = some (.bool !x) := rfl
theorem c_toInt {σ : Objs} {j : IntKind} : eC σ (.toInt k) (.int j a) = some (.int k (k.wrap a)) := rfl
theorem c_same {σ : Objs} : eC σ .same (.str s) = some (.str s) := rfl
theorem c_strBytes {σ : Objs} : eC σ .strBytes (.str s) = some (.sl (ofBytes s) (.gr 1)) := rfl
theorem len_str : evLenS (.str s) = some (.int .i64 s.length) := rfl
theorem len_nils : evLen .nils = some (.int .i64 0) := rfl
theorem len_sl {xs : List V} {c : Cap} : evLen (.sl xs c) = some (.int .i64 xs.length) := rfl
theorem len_hs {o off len sz : Nat} {ag : Bool} : evLen (.hs o off len sz ag) = some (.int .i64 len) := rfl
theorem pick_b {x : Bool} {v w : V} : pV (.bool x) v w = some (if x then v else w) := rfl
theorem pick_t {v w : V} : pV (.bool true) v w = some v := rfl
theorem pick_f {v w : V} : pV (.bool false) v w = some w := rfl
theorem idx_str (h : 0 ≤ a ∧ a < s.length) : evIdx (.int k a) (.str s) = some (.int .u8 (s.getD a.toNat 0).toNat) := by
  have h3 : a.toNat < s.length := by omega
  simp only [evIdx, index, if_pos h, Option.bind_eq_bind, Option.bind_some, List.getElem?_eq_getElem h3, List.getD_eq_getElem?_getD, Option.getD_some]
theorem extr_tup {vs : List V} {i : Nat} : eX i (.tup vs) = vs[i]? := rfl
theorem faddr_ptr {o i off : Nat} : eF off (.ptr o i) = some (.ptr o (i + off)) := rfl
theorem faddr_eptr {cs : List V} {i off : Nat} : eF off (.eptr cs i) = some (.eptr cs (i + off)) := rfl
theorem nilc_ptr {o i : Nat} : evNilc (.ptr o i) = some (.ptr o i) := rfl
theorem nilc_eptr {cs : List V} {i : Nat} : evNilc (.eptr cs i) = some (.eptr cs i) := rfl
theorem load_ptr {σ : Objs} {ag : Bool} {sz o off : Nat} : eL σ ag sz (.ptr o off) = (Objs.get σ o).bind fun cs => part ag sz cs off := rfl
theorem load_eptr {σ : Objs} {ag : Bool} {sz off : Nat} {cs : List V} : eL σ ag sz (.eptr cs off) = part ag sz cs off := rfl
theorem field_agg {ag : Bool} {sz off : Nat} {cs : List V} : evField ag off sz (.agg cs) = part ag sz cs off := rfl
theorem part_0 {c : V} {cs : List V} : part false 1 (c :: cs) 0 = some c.ng := rfl
theorem part_s {c : V} {cs : List V} {n : Nat} : part false 1 (c :: cs) (n + 1) = part false 1 cs n := rfl
theorem part_ag {cs : List V} {sz off : Nat} (h : off + sz ≤ cs.length) : part true sz cs off = some (.agg (((cs.drop off).take sz).map V.ng)) := by simp [part, h]
theorem one_int {keep : Bool} : oK keep (.int k a) = some (.int k a) := by cases keep <;> rfl
theorem one_bool {keep x : Bool} : oK keep (.bool x) = some (.bool x) := by cases keep <;> rfl
theorem one_str {keep : Bool} : oK keep (.str s) = some (.str s) := by cases keep <;> rfl
theorem one_agg {keep : Bool} {cs : List V} : oK keep (.agg cs) = some (.agg cs) := by cases keep <;> rfl
theorem one_ifc {keep : Bool} {t : TypeId} {x : V} : oK keep (.ifc t x) = some (.ifc t x) := by cases keep <;> rfl
theorem one_nili {keep : Bool} : oK keep .nili = some .nili := by cases keep <;> rfl
theorem one_nils {keep : Bool} : oK keep .nils = some .nils := by cases keep <;> rfl
theorem one_ptr {keep : Bool} {o i : Nat} : oK keep (.ptr o i) = some (.ptr o i) := by cases keep <;> rfl
theorem one_eptr {keep : Bool} {cs : List V} {i : Nat} : oK keep (.eptr cs i) = some (.eptr cs i) := by cases keep <;> rfl
theorem one_sl {xs : List V} {c : Cap} : oK false (.sl xs c) = some (.sl xs .no) := rfl
theorem one_slk {xs : List V} {c : Cap} : oK true (.sl xs c) = some (.sl xs c) := rfl
theorem one_hs {keep : Bool} {o off len sz : Nat} {ag : Bool} : oK keep (.hs o off len sz ag) = some (.hs o off len sz ag) := by cases keep <;> rfl
end
attribute [go_sem] b_add b_sub b_mul b_quo b_rem b_eql b_neq b_lss b_leq b_gtr b_geq bs_add bs_eql bs_neq bs_lss bb_eql bb_neq u_neg u_not c_toInt c_same c_strBytes len_str len_nils len_sl len_hs pick_b idx_str extr_tup faddr_ptr faddr_eptr nilc_ptr nilc_eptr load_ptr load_eptr field_agg part_0 part_s part_ag one_int one_bool one_str one_agg one_ifc one_nili one_nils one_ptr one_eptr one_sl one_slk one_hs
attribute [go_sem high] pick_t pick_f
def O.rb (n : Nat) : O → Bool
  | .cells cs => V.rbs n cs
  | .mp es => V.rbs n (es.map Prod.fst) && V.rbs n (es.map Prod.snd)
  | _ => true
def Wf (σ : Objs) : Prop := σ.all (O.rb σ.length) = true
theorem fzO_rb {n : Nat} {σ : Objs} {o : O} (h : o.rb n = true) : fzO n σ o = some o := by
  cases o with
  | cells cs => simp only [O.rb] at h; simp [fzO, h]
  | mp es => simp only [O.rb] at h; simp [fzO, h]
  | si r p => rfl
  | gone => rfl
theorem mapM_fzO {n : Nat} {σ : Objs} : ∀ {l : List O}, l.all (O.rb n) = true → l.mapM (fzO n σ) = some l
  | [], _ => by simp
  | o :: l, h => by
    simp only [List.all_cons, Bool.and_eq_true] at h
    simp [List.mapM_cons, fzO_rb h.1, mapM_fzO h.2]
theorem cut_wf {σ : Objs} (h : Wf σ) : cuO σ.length σ = some σ := by
  unfold cuO
  rw [List.take_length]
  exact mapM_fzO h
theorem cut_app {σ τ : Objs} (h : Wf σ) : cuO σ.length (σ ++ τ) = some σ := by
  unfold cuO
  rw [List.take_left']
  · exact mapM_fzO h
  · rfl
theorem wf_nil : Wf [] := rfl
theorem end_wf {σ : Objs} {r : V} (h : Wf σ) (hr : r.rb σ.length = true) : nK σ.length σ r = some (r, σ) := by
  unfold nK
  rw [cut_wf h, bd_some, fz_rb hr, bd_some]
theorem end_app {σ τ : Objs} {r : V} (h : Wf σ) (hr : r.rb σ.length = true) : nK σ.length (σ ++ τ) r = some (r, σ) := by
  unfold nK
  rw [cut_app h, bd_some, fz_rb hr, bd_some]
theorem end_0 {r : V} (hr : r.rb 0 = true) : nK 0 [] r = some (r, []) := end_wf (σ := []) wf_nil hr
theorem rb_int {n : Nat} {k : IntKind} {a : Int} : V.rb n (.int k a) = true := rfl
theorem rb_bool {n : Nat} {b : Bool} : V.rb n (.bool b) = true := rfl
theorem rb_str {n : Nat} {s : List UInt8} : V.rb n (.str s) = true := rfl
theorem rb_nili {n : Nat} : V.rb n .nili = true := rfl
theorem rb_nils {n : Nat} : V.rb n .nils = true := rfl
theorem rb_nilp {n : Nat} : V.rb n .nilp = true := rfl
theorem rb_any {n : Nat} : V.rb n .any = true := rfl
theorem rb_undef {n : Nat} : V.rb n .undef = true := rfl
theorem rb_ptr {n o i : Nat} : V.rb n (.ptr o i) = decide (o < n) := rfl
theorem rb_hs {n o off len sz : Nat} {ag : Bool} : V.rb n (.hs o off len sz ag) = decide (o < n) := rfl
theorem rb_agg {n : Nat} {cs : List V} : V.rb n (.agg cs) = V.rbs n cs := rfl
theorem rb_tup {n : Nat} {cs : List V} : V.rb n (.tup cs) = V.rbs n cs := rfl
theorem rb_sl {n : Nat} {cs : List V} {c : Cap} : V.rb n (.sl cs c) = V.rbs n cs := rfl
theorem rb_eptr {n i : Nat} {cs : List V} : V.rb n (.eptr cs i) = V.rbs n cs := rfl
theorem rb_ifc {n : Nat} {t : TypeId} {x : V} : V.rb n (.ifc t x) = V.rb n x := rfl
theorem rbs_nil {n : Nat} : V.rbs n [] = true := rfl
theorem rbs_cons {n : Nat} {x : V} {xs : List V} : V.rbs n (x :: xs) = (V.rb n x && V.rbs n xs) := rfl
theorem rbs_map {α : Type} {n : Nat} {f : α → V} (h : ∀ x, V.rb n (f x) = true) : ∀ {l : List α}, V.rbs n (l.map f) = true
  | [] => rfl
  | x :: l => by rw [List.map_cons, rbs_cons, h, rbs_map h]; rfl
attribute [go_sem] cut_wf cut_app end_wf end_app end_0 rb_int rb_bool rb_str rb_nili rb_nils rb_nilp rb_any rb_undef rb_ptr rb_hs rb_agg rb_tup rb_sl rb_eptr rb_ifc rbs_nil rbs_cons rbs_bytes fz_int fz_bool fz_str fz_nilp fz_nils fz_nili fz_nilf fz_undef fz_any fz_bytes fz_rb
theorem w64 {x : Int} (h : -9223372036854775808 ≤ x ∧ x ≤ 9223372036854775807) : IntKind.i64.wrap x = x := by simp only [IntKind.wrap_i64]; omega
theorem w8 {x : Int} (h : 0 ≤ x ∧ x ≤ 255) : IntKind.u8.wrap x = x := by simp only [IntKind.wrap_u8]; omega
theorem w32 {x : Int} (h : -2147483648 ≤ x ∧ x ≤ 2147483647) : IntKind.i32.wrap x = x := by simp only [IntKind.wrap_i32]; omega
attribute [go_sem] List.getD_cons_zero List.getD_cons_succ Option.bind_some Option.bind_none Bool.and_true Bool.true_and Bool.not_true Bool.not_false Bool.false_or Bool.or_false Bool.true_or Bool.or_true Bool.false_and Bool.and_false
theorem get_new {σ : Objs} {cs : List V} : Objs.get (σ ++ [.cells cs]) σ.length = some cs := by simp [Objs.get]
theorem mapM_fz {n d : Nat} {σ : Objs} : ∀ {cs : List V}, V.rbs n cs = true → cs.mapM (fz n σ d) = some cs
  | [], _ => by simp
  | c :: cs, h => by
    rw [rbs_cons, Bool.and_eq_true] at h
    simp [List.mapM_cons, fz_rb h.1, mapM_fz h.2]
theorem fz_newp {σ : Objs} {cs : List V} {d off : Nat} (h : V.rbs σ.length cs = true) : fz σ.length (σ ++ [.cells cs]) (d + 1) (.ptr σ.length off) = some (.eptr cs off) := by
  simp [fz, rb_ptr, get_new, mapM_fz h]
theorem fz_box {σ : Objs} {cs : List V} {t : TypeId} {off : Nat} (h : V.rbs σ.length cs = true) : fz σ.length (σ ++ [.cells cs]) fzD (.ifc t (.ptr σ.length off)) = some (.ifc t (.eptr cs off)) := by
  unfold fzD
  rw [show (40 : Nat) = 39 + 1 from rfl]
  unfold fz
  simp only [rb_ifc, rb_ptr, Nat.lt_irrefl, decide_false, Bool.false_eq_true, if_false, fz_newp h]
  rfl
theorem end_box {σ : Objs} {cs : List V} {t : TypeId} {off : Nat} (hσ : Wf σ) (h : V.rbs σ.length cs = true) : nK σ.length (σ ++ [.cells cs]) (.ifc t (.ptr σ.length off)) = some (.ifc t (.eptr cs off), σ) := by
  unfold nK
  rw [cut_app hσ, bd_some, fz_box h, bd_some]
theorem box_eq {σ : Objs} {x : V} : boxV σ x = if okCells x.cells = true then some (.ptr σ.length 0, σ ++ [.cells (x.cells.map V.ng)]) else none := by unfold boxV; rfl
theorem cells_agg {cs : List V} : (V.agg cs).cells = cs := rfl
theorem cells_int {k : IntKind} {a : Int} : (V.int k a).cells = [.int k a] := rfl
theorem cells_bool {b : Bool} : (V.bool b).cells = [.bool b] := rfl
theorem cells_str {s : List UInt8} : (V.str s).cells = [.str s] := rfl
theorem cells_nili : V.nili.cells = [.nili] := rfl
theorem cells_nils : V.nils.cells = [.nils] := rfl
theorem cells_sl {xs : List V} {c : Cap} : (V.sl xs c).cells = [.sl xs c] := rfl
theorem cells_ifc {t : TypeId} {x : V} : (V.ifc t x).cells = [.ifc t x] := rfl
theorem cells_ptr {o i : Nat} : (V.ptr o i).cells = [.ptr o i] := rfl
theorem cells_eptr {cs : List V} {i : Nat} : (V.eptr cs i).cells = [.eptr cs i] := rfl
theorem okc_nil : okCells [] = true := rfl
theorem okc_cons {x : V} {xs : List V} : okCells (x :: xs) = (V.one x && okCells xs) := rfl
theorem one_int' {k : IntKind} {a : Int} : V.one (.int k a) = true := rfl
theorem one_bool' {b : Bool} : V.one (.bool b) = true := rfl
theorem one_str' {s : List UInt8} : V.one (.str s) = true := rfl
theorem one_nili' : V.one .nili = true := rfl
theorem one_nils' : V.one .nils = true := rfl
theorem one_nilp' : V.one .nilp = true := rfl
theorem one_sl' {xs : List V} {c : Cap} : V.one (.sl xs c) = true := rfl
theorem one_ifc' {t : TypeId} {x : V} : V.one (.ifc t x) = true := rfl
theorem one_ptr' {o i : Nat} : V.one (.ptr o i) = true := rfl
theorem one_eptr' {cs : List V} {i : Nat} : V.one (.eptr cs i) = true := rfl
attribute [go_sem] get_new end_box box_eq cells_agg cells_int cells_bool cells_str cells_nili cells_nils cells_sl cells_ifc cells_ptr cells_eptr okc_nil okc_cons one_int' one_bool' one_str' one_nili' one_nils' one_nilp' one_sl' one_ifc' one_ptr' one_eptr' List.map_cons List.map_nil List.drop_succ_cons List.drop_zero List.take_succ_cons List.take_zero List.take_nil List.drop_nil List.length_cons List.length_nil Nat.reduceAdd Nat.reduceLeDiff Nat.reduceLT Nat.zero_add Nat.add_zero
theorem build_eq {z : List V} {ps : List (Nat × Nat × V)} : buildV z ps = (lay z ps).map V.agg := rfl
theorem lay_nil {z : List V} : lay z [] = some z := rfl
theorem lay_cons {z : List V} {off sz : Nat} {x : V} {r : List (Nat × Nat × V)} (h1 : x.cells.length = sz) (h2 : off + sz ≤ z.length) (h3 : okCells x.cells = true) : lay z ((off, sz, x) :: r) = lay (putAt z off (x.cells.map V.ng)) r := by
  simp [lay, h1, h2, h3]
theorem putAt_nil {z : List V} {n : Nat} : putAt z n [] = z := by cases z <;> cases n <;> rfl
theorem putAt_0 {c x : V} {cs xs : List V} : putAt (c :: cs) 0 (x :: xs) = x :: putAt cs 0 xs := rfl
theorem putAt_s {c x : V} {cs xs : List V} {n : Nat} : putAt (c :: cs) (n + 1) (x :: xs) = c :: putAt cs n (x :: xs) := rfl
theorem omap_some {α β : Type} {a : α} {f : α → β} : (some a).map f = some (f a) := rfl
attribute [go_sem] build_eq lay_nil lay_cons putAt_nil putAt_0 putAt_s omap_some
theorem wf_nil' : Wf [] = True := by simp [Wf]
theorem wf_one {cs : List V} : Wf [.cells cs] = (V.rbs 1 cs = true) := by simp [Wf, O.rb]
theorem cutO_0 {σ : Objs} : cuO 0 σ = some [] := rfl
theorem end_z {σ : Objs} {r : V} (hr : r.rb 0 = true) : nK 0 σ r = some (r, []) := by
  unfold nK
  rw [cutO_0, bd_some, fz_rb hr, bd_some]
theorem end_box0 {cs : List V} {t : TypeId} {off : Nat} (h : V.rbs 0 cs = true) : nK 0 [.cells cs] (.ifc t (.ptr 0 off)) = some (.ifc t (.eptr cs off), []) := end_box (σ := []) wf_nil h
theorem cut_one {cs : List V} (h : V.rbs 1 cs = true) : cuO 1 [.cells cs] = some [.cells cs] := cut_wf (σ := [.cells cs]) (by rw [wf_one]; exact h)
theorem cut_one' {cs : List V} {τ : Objs} (h : V.rbs 1 cs = true) : cuO 1 (.cells cs :: τ) = some [.cells cs] := cut_app (σ := [.cells cs]) (τ := τ) (by rw [wf_one]; exact h)
theorem end_one {cs : List V} {r : V} (h : V.rbs 1 cs = true) (hr : r.rb 1 = true) : nK 1 [.cells cs] r = some (r, [.cells cs]) := end_wf (σ := [.cells cs]) (by rw [wf_one]; exact h) hr
theorem end_one' {cs : List V} {τ : Objs} {r : V} (h : V.rbs 1 cs = true) (hr : r.rb 1 = true) : nK 1 (.cells cs :: τ) r = some (r, [.cells cs]) := end_app (σ := [.cells cs]) (τ := τ) (by rw [wf_one]; exact h) hr
theorem end_box1 {cs ds : List V} {t : TypeId} {off : Nat} (h : V.rbs 1 cs = true) (hd : V.rbs 1 ds = true) : nK 1 [.cells cs, .cells ds] (.ifc t (.ptr 1 off)) = some (.ifc t (.eptr ds off), [.cells cs]) := end_box (σ := [.cells cs]) (by rw [wf_one]; exact h) hd
theorem get1 {O : O} {cs : List V} {τ : Objs} : Objs.get (O :: .cells cs :: τ) 1 = some cs := rfl
theorem cutS_lo {k : IntKind} {a : Int} {s : List UInt8} (h : 0 ≤ a ∧ a ≤ s.length) : evCutS (.str s) (some (.int k a)) none = some (.str (s.drop a.toNat)) := by
  have hb : bound (.int k a) s.length = some a.toNat := by simp [bound, h]
  have h3 : ((s.drop a.toNat).take (s.length - a.toNat)) = s.drop a.toNat := by rw [List.take_of_length_le]; simp
  simp [evCutS, bounds, hb, h3]
theorem cutS_hi {k : IntKind} {a : Int} {s : List UInt8} (h : 0 ≤ a ∧ a ≤ s.length) : evCutS (.str s) none (some (.int k a)) = some (.str (s.take a.toNat)) := by
  have hb : bound (.int k a) s.length = some a.toNat := by simp [bound, h]
  simp [evCutS, bounds, hb]
attribute [go_sem] wf_nil' wf_one cutO_0 end_z end_box0 cut_one cut_one' end_one end_one' end_box1 get0 get1 cutS_lo cutS_hi List.nil_append List.cons_append
theorem iP {p : Prop} [Decidable p] {α : Type} {a b : α} (h : p) : (if p then a else b) = a := if_pos h
theorem iN {p : Prop} [Decidable p] {α : Type} {a b : α} (h : ¬ p) : (if p then a else b) = b := if_neg h
attribute [go_sem] Int.reduceToNat Int.toNat_natCast Int.toNat_zero Int.reduceAdd Int.reduceSub Int.reduceMul Int.reduceNeg Int.reduceLT Int.reduceLE Nat.reduceSub Nat.reduceMul
theorem iaddr_bytes {k : IntKind} {i : Int} {s : List UInt8} {c : Cap} (h : 0 ≤ i ∧ i < s.length) : eI 1 (.int k i) (.sl (ofBytes s) c) = some (.eptr [.int .u8 (s.getD i.toNat 0).toNat] 0) := by
  have h3 : i.toNat < s.length := by omega
  have h4 : (ofBytes s).length = s.length := by simp [ofBytes]
  have h5 : (ofBytes s)[i.toNat]? = some (.int .u8 (s.getD i.toNat 0).toNat) := by simp [ofBytes, h3]
  simp only [eI, index, h4, if_pos h, Option.bind_eq_bind, Option.bind_some, h5]
  rfl
theorem len_bytes {s : List UInt8} : (ofBytes s).length = s.length := by simp [ofBytes]
theorem getD_mid {α : Type} {p r : List α} {b x : α} : (p ++ b :: r).getD p.length x = b := by simp
attribute [go_sem] iaddr_bytes len_bytes getD_mid
attribute [go_sem] reduceCtorEq List.getElem?_cons_zero List.getElem?_cons_succ List.length_append
theorem agOk_int {k : IntKind} {a : Int} : agOk false (.int k a) = true := rfl
theorem agOk_str {s : List UInt8} : agOk false (.str s) = true := rfl
theorem agOk_bool {b : Bool} : agOk false (.bool b) = true := rfl
theorem agOk_agg {cs : List V} : agOk true (.agg cs) = true := rfl
theorem buildF_eq {ag : Bool} {sz len : Nat} {z : V} {ps : List (Nat × V)} : buildFV ag sz len z ps = (laySl sz (List.replicate len z) ps).bind fun xs => if okRow ag sz xs = true then some (.sl xs .fx) else none := rfl
theorem laySl_nil {sz : Nat} {z : List V} : laySl sz z [] = some z := rfl
theorem laySl_cons {sz i : Nat} {z : List V} {x : V} {r : List (Nat × V)} (h1 : x.cells.length = sz) (h2 : i < z.length) (h3 : okCells x.cells = true) : laySl sz z ((i, x) :: r) = laySl sz (z.set i x.ng) r := by simp [laySl, h1, h2, h3]
theorem okRow_nil {ag : Bool} {sz : Nat} : okRow ag sz [] = true := rfl
theorem okRow_cons {ag : Bool} {sz : Nat} {y : V} {ys : List V} : okRow ag sz (y :: ys) = (decide (y.cells.length = sz) && okCells y.cells && agOk ag y && okRow ag sz ys) := rfl
theorem bytesStr_sl {σ : Objs} {xs : List V} {c : Cap} : eC σ .bytesStr (.sl xs c) = (bytesOf xs).map V.str := rfl
theorem bytesOf_nil : bytesOf [] = some [] := rfl
theorem bytesOf_cons {n : Int} {xs : List V} : bytesOf (.int .u8 n :: xs) = (bytesOf xs).map fun bs => UInt8.ofNat n.toNat :: bs := by simp only [bytesOf]; cases bytesOf xs <;> rfl
theorem neq_nili : eB .neq .ifc .nili .nili = some (.bool false) := rfl
theorem eq_nili : eB .eql .ifc .nili .nili = some (.bool true) := rfl
theorem neq_ifc {t : TypeId} {x : V} : eB .neq .ifc (.ifc t x) .nili = some (.bool true) := rfl
theorem eq_ifc {t : TypeId} {x : V} : eB .eql .ifc (.ifc t x) .nili = some (.bool false) := rfl
attribute [go_sem] agOk_int agOk_str agOk_bool agOk_agg buildF_eq laySl_nil laySl_cons okRow_nil okRow_cons bytesStr_sl bytesOf_nil bytesOf_cons neq_nili eq_nili neq_ifc eq_ifc List.length_replicate List.replicate_succ List.replicate_zero List.set_cons_zero List.set_cons_succ
end Go.Ev
set_option linter.unusedSimpArgs false
set_option linter.unusedVariables false
namespace Go.Ev
open Go
section
variable {α : Type} {f : α → V} {sz : Nat} {l m : List α} {c c' : Cap}
theorem iaddr_map (hf : ∀ x, (f x).cells.length = sz) (d : α) {k : IntKind} {i : Int} (h : 0 ≤ i ∧ i < l.length) : eI sz (.int k i) (.sl (l.map f) c) = some (.eptr (f (l.getD i.toNat d)).cells 0) := by
  have h3 : i.toNat < l.length := by omega
  have h4 : (l.map f).length = l.length := by simp
  have h5 : (l.map f)[i.toNat]? = some (f (l.getD i.toNat d)) := by simp [h3]
  simp only [eI, index, h4, if_pos h, Option.bind_eq_bind, Option.bind_some, h5, hf, if_true]
theorem all_map (hf : ∀ x, (f x).cells.length = sz) : (l.map f).all (fun y => decide (y.cells.length = sz)) = true := by
  rw [List.all_map]
  exact List.all_eq_true.2 fun x _ => by simp [hf]
theorem cut_map (hf : ∀ x, (f x).cells.length = sz) {k k' : IntKind} {a b : Int} (h : 0 ≤ a ∧ a ≤ b ∧ b ≤ l.length) : evCut sz (.sl (l.map f) c) (some (.int k a)) (some (.int k' b)) none = some (.sl (((l.drop a.toNat).take (b.toNat - a.toNat)).map f) .no) := by
  have h1 : bound (.int k' b) (l.map f).length = some b.toNat := by simp [bound]; omega
  have h2 : bound (.int k a) b.toNat = some a.toNat := by simp [bound]; omega
  have h3 : bounds (l.map f).length (some (.int k a)) (some (.int k' b)) none = some (a.toNat, b.toNat, none) := by
    simp only [bounds, Option.getD_none, h1, h2, Option.bind_eq_bind, Option.bind_some, Option.pure_def]
  simp only [evCut, h3, Option.bind_eq_bind, Option.bind_some, all_map hf, if_true, reduceCtorEq, if_false, List.map_drop, List.map_take]
theorem okRow_map {ag : Bool} (hf : ∀ x, (f x).cells.length = sz) (ho : ∀ x, okCells (f x).cells = true) (ha : ∀ x, agOk ag (f x) = true) : okRow ag sz (l.map f) = true := by
  unfold okRow
  rw [List.all_map]
  exact List.all_eq_true.2 fun x _ => by simp [hf, ho, ha]
theorem app_map {ag : Bool} {bytes : Nat} {σ : Objs} (hf : ∀ x, (f x).cells.length = sz) (ho : ∀ x, okCells (f x).cells = true) (ha : ∀ x, agOk ag (f x) = true) (hc : c = .fx ∨ c = .gr sz) (hm : m ≠ []) (hl : (l.length + m.length) * bytes ≤ rowMax) :
    appV false ag sz bytes σ (.sl (l.map f) c) (.sl (m.map f) c') = some (.sl ((l ++ m).map f) (.gr sz)) := by
  have h1 := all_map (l := l) hf
  have h2 : ∃ y ys, m.map f = y :: ys := by
    match m, hm with
    | x :: m, _ => exact ⟨_, _, rfl⟩
  obtain ⟨y, ys, h2⟩ := h2
  have h3 : (l.map f).length + (y :: ys).length = l.length + m.length := by rw [← h2]; simp
  have h4 := okRow_map (l := m) hf ho ha
  rw [h2] at h4
  unfold appV
  simp only [srcOf, Bool.false_eq_true, if_false, rowOf, Option.bind_eq_bind, Option.bind_some]
  rw [h2]
  unfold evApp
  simp only [h4, if_true]
  rw [if_pos ⟨hc, h1, by rw [h3]; exact hl⟩, List.map_append, h2]
end
def ints (l : List Int) : List V := l.map (V.int .i64)
theorem len_ints {l : List Int} : (ints l).length = l.length := by simp [ints]
theorem rbs_ints {n : Nat} {l : List Int} : V.rbs n (ints l) = true := rbs_map fun _ => rfl
theorem iaddr_ints {l : List Int} {c : Cap} {k : IntKind} {i : Int} (h : 0 ≤ i ∧ i < l.length) : eI 1 (.int k i) (.sl (ints l) c) = some (.eptr [.int .i64 (l.getD i.toNat 0)] 0) := iaddr_map (f := V.int .i64) (fun _ => rfl) 0 h
theorem cut_ints {l : List Int} {c : Cap} {k k' : IntKind} {a b : Int} (h : 0 ≤ a ∧ a ≤ b ∧ b ≤ l.length) : evCut 1 (.sl (ints l) c) (some (.int k a)) (some (.int k' b)) none = some (.sl (ints ((l.drop a.toNat).take (b.toNat - a.toNat))) .no) := cut_map (f := V.int .i64) (fun _ => rfl) h
theorem app_int {l : List Int} {x : Int} {c c' : Cap} {σ : Objs} (hc : c = .fx ∨ c = .gr 1) (hl : (l.length + 1) * 8 ≤ rowMax) : appV false false 1 8 σ (.sl (ints l) c) (.sl [.int .i64 x] c') = some (.sl (ints (l ++ [x])) (.gr 1)) :=
  app_map (f := V.int .i64) (m := [x]) (fun _ => rfl) (fun _ => rfl) (fun _ => rfl) hc (by simp) hl
theorem app_bytes {l m : List UInt8} {c c' : Cap} {σ : Objs} (hc : c = .fx ∨ c = .gr 1) (hm : m ≠ []) (hl : l.length + m.length ≤ rowMax) : appV false false 1 1 σ (.sl (ofBytes l) c) (.sl (ofBytes m) c') = some (.sl (ofBytes (l ++ m)) (.gr 1)) :=
  app_map (f := fun b : UInt8 => V.int .u8 b.toNat) (fun _ => rfl) (fun _ => rfl) (fun _ => rfl) hc hm (by simpa using hl)
theorem cut_bytes {l : List UInt8} {c : Cap} {k k' : IntKind} {a b : Int} (h : 0 ≤ a ∧ a ≤ b ∧ b ≤ l.length) : evCut 1 (.sl (ofBytes l) c) (some (.int k a)) (some (.int k' b)) none = some (.sl (ofBytes ((l.drop a.toNat).take (b.toNat - a.toNat))) .no) := cut_map (f := fun b : UInt8 => V.int .u8 b.toNat) (fun _ => rfl) h
theorem bytesOf_of {s : List UInt8} : bytesOf (ofBytes s) = some s := by
  induction s with
  | nil => rfl
  | cons b s ih =>
    show bytesOf (.int .u8 b.toNat :: ofBytes s) = _
    rw [bytesOf_cons, ih]
    simp
attribute [go_sem] len_ints rbs_ints iaddr_ints cut_ints app_int app_bytes cut_bytes bytesOf_of
end Go.Ev
set_option linter.unusedSimpArgs false
set_option linter.unusedVariables false
namespace Go.Ev
open Go
inductive Sl (α : Type) where
  | nil | row (xs : List α)
def Sl.l {α : Type} : Sl α → List α
  | .nil => []
  | .row xs => xs
def vSl {α : Type} (f : α → V) : Sl α → V
  | .nil => .nils
  | .row xs => .sl (xs.map f) .no
section
variable {α : Type} {f : α → V} {s : Sl α} {sz : Nat}
theorem len_vSl : evLen (vSl f s) = some (.int .i64 s.l.length) := by
  cases s with
  | nil => rfl
  | row xs => show some (V.int .i64 ((xs.map f).length : Nat)) = _; rw [List.length_map]; rfl
theorem n_vSl : (vSl f s).ng = vSl f s := by cases s <;> rfl
theorem one_vSl : V.one (vSl f s) = true := by cases s <;> rfl
theorem oneK_vSl {keep : Bool} : oK keep (vSl f s) = some (vSl f s) := by cases s <;> cases keep <;> rfl
theorem cells_vSl : (vSl f s).cells = [vSl f s] := by cases s <;> rfl
theorem agOk_vSl : agOk false (vSl f s) = true := by cases s <;> rfl
theorem rb_vSl {n : Nat} (h : ∀ x ∈ s.l, V.rb n (f x) = true) : V.rb n (vSl f s) = true := by
  cases s with
  | nil => rfl
  | row xs =>
    show V.rbs n (xs.map f) = true
    have h' : ∀ x ∈ xs, V.rb n (f x) = true := h
    clear h
    induction xs with
    | nil => rfl
    | cons x l ih => rw [List.map_cons, rbs_cons, h' x (List.mem_cons_self ..), ih fun y hy => h' y (List.mem_cons_of_mem _ hy)]; rfl
theorem iaddr_vSl {p r : List α} {x : α} {k : IntKind} {i : Int} (h : s.l = p ++ x :: r) (hi : i = p.length) (hf : (f x).cells.length = sz) : eI sz (.int k i) (vSl f s) = some (.eptr (f x).cells 0) := by
  cases s with
  | nil => cases p <;> cases h
  | row xs =>
    have h' : xs = p ++ x :: r := h
    have h3 : 0 ≤ i ∧ i < (xs.map f).length := by rw [h']; simp; omega
    have h5 : (xs.map f)[i.toNat]? = some (f x) := by rw [h', hi]; simp
    show eI sz (.int k i) (.sl (xs.map f) .no) = _
    simp only [eI, index, if_pos h3, Option.bind_eq_bind, Option.bind_some, h5, hf, if_true]
def Sl.take (n : Nat) : Sl α → Sl α
  | .nil => .nil
  | .row xs => .row (xs.take n)
end
attribute [go_sem] len_vSl n_vSl one_vSl oneK_vSl cells_vSl agOk_vSl
end Go.Ev
set_option linter.unusedSimpArgs false
set_option linter.unusedVariables false
namespace Go.Ev
open Go Go.ChangeShapes Go.WideShapes Go.RowKit
section
variable {H : Type} {enc : TypeId × Value → H} {P : Program} {w : World} {α : Type}
def Hv (P : Program) (t : TypeId) (d : DataW H) : Prop := ∀ k ∈ d.weights P t, k ≤ reachBytes
def Dec (enc : TypeId × Value → H) (P : Program) (w : World) (n : Nat) (t : TypeId) (v : α → List V) (Q : α → Prop) : Prop :=
  ∀ fuel, fuel ≤ n → ∀ cs y, DataW.trod enc P w 0 (fun _ => true) true fuel t cs = some y → Hv P t y.1 → ∃ x : α, Reps (memOf w) noPlc cs (v x) ∧ Q x
def I64 (n : Int) : Prop := -9223372036854775808 ≤ n ∧ n ≤ 9223372036854775807
theorem dec_int {n : Nat} {t : TypeId} (ht : P.underlying t = some (.int .i64)) : Dec enc P w n t (fun i => [.int .i64 i]) I64 := by
  intro fuel _ cs y h _
  obtain ⟨i, rfl, _, hw⟩ := DataW.trod_int ht h
  exact ⟨i, Reps.cons (.int _ _) Reps.nil, show _ ∧ _ by simpa [Lit.wf, IntKind.min, IntKind.max, IntKind.signed, IntKind.bits] using hw⟩
theorem weights_all {P : Program} {e : TypeId} : ∀ {ds : List (DataW H)} {d : DataW H} {k : Nat}, d ∈ ds → k ∈ d.weights P e → k ∈ DataW.weightsAll P e ds
  | [], d, k, h, _ => by cases h
  | d0 :: ds, d, k, h, h3 => by
    simp only [DataW.weightsAll]
    rcases List.mem_cons.1 h with rfl | h
    · exact List.mem_append_left _ h3
    · exact List.mem_append_right _ (weights_all h h3)
theorem addr_add' (b off j : Nat) : (⟨b, off, none⟩ : Addr).add j = ⟨b, off + j, none⟩ := by
  by_cases h : j = 0
  · subst h; rfl
  · simp [Addr.add, h]
theorem list_ofQ {α : Type} (P : Nat → α → Prop) : ∀ n, (∀ i, i < n → ∃ x, P i x) → ∃ xs : List α, xs.length = n ∧ ∀ i x, xs[i]? = some x → P i x := by
  intro n
  induction n with
  | zero => intro _; exact ⟨[], rfl, fun i x hi => by cases hi⟩
  | succ n ih =>
    intro h
    obtain ⟨xs, hl, hx⟩ := ih (fun i hi => h i (by omega))
    obtain ⟨y, hy⟩ := h n (by omega)
    refine ⟨xs ++ [y], by simp [hl], fun i x hi => ?_⟩
    by_cases e : i < xs.length
    · rw [List.getElem?_append_left e] at hi; exact hx i x hi
    · have h1 := (List.getElem?_eq_some_iff.1 hi).1
      have e2 : i = n := by simp at h1; omega
      subst e2
      rw [List.getElem?_append_right (by omega), hl, Nat.sub_self] at hi
      cases hi
      exact hy
theorem flat_getS {β : Type} {ls : List (List β)} {sz : Nat} (hs : ∀ l ∈ ls, l.length = sz) (h0 : 0 < sz) (i : Nat) : ls.flatten[i]? = (ls[i / sz]?).bind fun l => l[i % sz]? := by
  induction ls generalizing i with
  | nil => simp
  | cons l ls ih =>
    have hl := hs l (List.mem_cons_self ..)
    rw [List.flatten_cons]
    by_cases h : i < sz
    · rw [List.getElem?_append_left (by omega), Nat.div_eq_of_lt h, Nat.mod_eq_of_lt h]
      rfl
    · have e1 : i / sz = (i - sz) / sz + 1 := by
        have := Nat.sub_add_cancel (Nat.le_of_not_lt h)
        rw [← Nat.add_div_right _ h0, this]
      have e2 : i % sz = (i - sz) % sz := by
        have := Nat.sub_add_cancel (Nat.le_of_not_lt h)
        rw [← Nat.add_mod_right (i - sz), this]
      rw [List.getElem?_append_right (by omega), hl, ih (fun l' h' => hs l' (List.mem_cons_of_mem _ h')), e1, e2]
      rfl
theorem dec_slice {n : Nat} {t e : TypeId} {f : α → V} {Q : α → Prop} {sz : Nat} (ht : P.underlying t = some (.slice e)) (hc : P.cellsOf e = sz) (h0 : 0 < sz) (hbt : 0 < P.bytesOf e) (hf : ∀ x, (f x).cells.length = sz) (hd : Dec enc P w n e (fun x => (f x).cells) Q) :
    Dec enc P w (n + 1) t (fun s => [vSl f s]) (fun s => s.l.length ≤ reachBytes ∧ ∀ x ∈ s.l, Q x) := by
  intro fuel hfu cs y h hv
  rcases DataW.trod_slice ht h with ⟨rfl, _⟩ | ⟨a, len, cap, elems, rest, m, rfl, rfl, rfl, _, hl, hm, hel, hi, hr, _⟩
  · exact ⟨.nil, Reps.cons .nils Reps.nil, Nat.zero_le _, fun x hx => by cases hx⟩
  · have key : ∀ i, i < len → ∃ x : α, (∃ us : List Value, us.length = sz ∧ (∀ j u, us[j]? = some u → w.cell? ((a.add (i * sz)).add j) = some u) ∧ Reps (memOf w) noPlc us (f x).cells) ∧ Q x := by
      intro i hil
      have h1 := hi i hil
      rw [List.getElem?_eq_getElem (by omega), hc] at h1
      obtain ⟨us, hu, h2⟩ := Option.bind_eq_some_iff.1 h1
      obtain ⟨_, hul, hat⟩ := World.cells?_some hu
      obtain ⟨x, hx, hq⟩ := hd m (by omega) us _ h2 (fun k hk => hv k (by
        simp only [DataW.weights, ht]
        refine List.mem_cons_of_mem _ (List.mem_append_left _ (weights_all (List.mem_map_of_mem (List.getElem_mem (l := elems) (n := i) (by omega))) hk))))
      refine ⟨x, ⟨us, hul, fun j u hj => ?_, hx⟩, hq⟩
      have hjl : j < sz := by rw [← hul]; exact (List.getElem?_eq_some_iff.1 hj).1
      rw [hat j hjl, hj]
    obtain ⟨xs, hxl, hx⟩ := list_ofQ _ len key
    have hlenb : len ≤ reachBytes := by
      have h3 : (elems.length + rest.length) * P.bytesOf e ≤ reachBytes := hv _ (by
        simp only [DataW.weights, ht, List.length_map]
        exact List.mem_cons_self ..)
      have h4 : elems.length + rest.length ≤ (elems.length + rest.length) * P.bytesOf e := Nat.le_mul_of_pos_right _ hbt
      omega
    refine ⟨.row xs, Reps.cons ?_ Reps.nil, by show xs.length ≤ _; omega, fun x hxm => ?_⟩
    · show Rep (memOf w) noPlc (.slice (some a) len cap) (.sl (xs.map f) .no)
      by_cases hcap : cap = 0
      · obtain rfl : len = 0 := by omega
        subst hcap
        obtain rfl : xs = [] := List.length_eq_zero_iff.1 hxl
        exact .sl0 a .no fun s e => by cases e
      ·
        have hsome : ∃ u, w.cell? a = some u := by
          have h1 : ∃ us, w.cells? 0 (a.add 0) sz = some us := by
            by_cases hlen : len = 0
            · obtain ⟨hr1, hr2⟩ := hr rfl
              obtain ⟨d0, hd0⟩ : ∃ d, rest[0]? = some d := ⟨_, List.getElem?_eq_getElem (by omega)⟩
              have h1 := hr2 0 (by omega)
              rw [hd0, hc, hlen] at h1
              obtain ⟨us, hu, _⟩ := Option.bind_eq_some_iff.1 h1
              exact ⟨us, by simpa using hu⟩
            · have h1 := hi 0 (by omega)
              rw [List.getElem?_eq_getElem (by omega), hc] at h1
              obtain ⟨us, hu, _⟩ := Option.bind_eq_some_iff.1 h1
              exact ⟨us, by simpa using hu⟩
          obtain ⟨us, hu⟩ := h1
          obtain ⟨_, hul, hat⟩ := World.cells?_some hu
          have := hat 0 h0
          rw [List.getElem?_eq_getElem (by omega)] at this
          exact ⟨_, by simpa [Addr.add] using this⟩
        obtain ⟨u0, hu0⟩ := hsome
        have hsp : a.spot = none := by
          cases hsp : a.spot with
          | none => rfl
          | some s =>
            exfalso
            unfold World.cell? at hu0
            rw [hsp] at hu0
            cases hb : w.heap[a.block]? with
            | none => simp [hb] at hu0
            | some o => cases o <;> simp [hb] at hu0
        obtain ⟨b, off, spot⟩ := a
        simp only at hsp
        subst hsp
        have hall : ∀ i, i < len → ∃ us : List Value, us.length = sz ∧ (∀ j u, us[j]? = some u → w.cell? ⟨b, off + (i * sz + j), none⟩ = some u) ∧ ∃ x, xs[i]? = some x ∧ Reps (memOf w) noPlc us (f x).cells := by
          intro i hil
          obtain ⟨us, h1, h2, h3⟩ := (hx i _ (List.getElem?_eq_getElem (by omega))).1
          refine ⟨us, h1, fun j u hj => ?_, _, List.getElem?_eq_getElem (by omega), h3⟩
          have := h2 j u hj
          rw [addr_add', addr_add', Nat.add_assoc] at this
          exact this
        obtain ⟨uss, hul, hus⟩ := list_ofQ _ len hall
        have hsz : ∀ l ∈ uss, l.length = sz := fun l hl => by
          obtain ⟨i, hi, e⟩ := List.getElem_of_mem hl
          exact (hus i l (by rw [List.getElem?_eq_getElem hi, e])).1
        have hfl : (xs.map f).flatMap V.cells = (xs.map fun x => (f x).cells).flatten := by rw [List.flatMap_def, List.map_map]; rfl
        have hszx : ∀ l ∈ xs.map (fun x => (f x).cells), l.length = sz := fun l hl => by
          obtain ⟨x, _, rfl⟩ := List.mem_map.1 hl
          exact hf x
        have hlen1 : uss.flatten.length = len * sz := by
          rw [List.length_flatten, List.map_congr_left (g := fun _ => sz) hsz, List.map_const', List.sum_replicate_nat, hul]
        have hlen2 : (xs.map fun x => (f x).cells).flatten.length = len * sz := by
          rw [List.length_flatten, List.map_congr_left (g := fun _ => sz) hszx, List.map_const', List.sum_replicate_nat, List.length_map, hxl]
        have key := Rep.sl (M := memOf w) (ι := noPlc) (xs.map f) .no b off cap sz uss.flatten
          (fun y hy => by obtain ⟨x, _, rfl⟩ := List.mem_map.1 hy; exact hf x)
          (by rw [hfl, hlen1, hlen2])
          (fun i u hu => by
            rw [flat_getS hsz h0] at hu
            obtain ⟨l, hl1, hl2⟩ := Option.bind_eq_some_iff.1 hu
            have h1 := (hus _ l hl1).2.1 _ u hl2
            show w.cell? ⟨b, off + i, none⟩ = _
            rw [show i / sz * sz + i % sz = i by rw [Nat.mul_comm]; exact Nat.div_add_mod i sz] at h1
            exact h1)
          (fun i u c hu hc' => by
            rw [hfl, flat_getS hszx h0] at hc'
            rw [flat_getS hsz h0] at hu
            obtain ⟨l, hl1, hl2⟩ := Option.bind_eq_some_iff.1 hu
            obtain ⟨k, hk1, hk2⟩ := Option.bind_eq_some_iff.1 hc'
            obtain ⟨x, hxx, hrep⟩ := (hus _ l hl1).2.2
            rw [List.getElem?_map, hxx] at hk1
            cases hk1
            exact hrep.2 _ u c hl2 hk2)
          (by rw [List.length_map, hxl]; exact hl) (fun e => by cases e)
        rw [List.length_map, hxl] at key
        exact key
    · obtain ⟨k, hk, e⟩ := List.getElem_of_mem hxm
      have := (hx k _ (List.getElem?_eq_getElem hk)).2
      rwa [e] at this
theorem Dec.mono {n m : Nat} {t : TypeId} {v : α → List V} {Q : α → Prop} (h : Dec enc P w n t v Q) (hm : m ≤ n) : Dec enc P w m t v Q := fun fuel hf cs y hy hv => h fuel (Nat.le_trans hf hm) cs y hy hv
end
end Go.Ev
set_option linter.unusedSimpArgs false
set_option linter.unusedVariables false
namespace Go.Ev
mutual
def V.hh : V → Nat
  | .sl xs _ => if xs.isEmpty then 0 else V.hhs xs + 1
  | .agg cs => V.hhs cs
  | _ => 0
def V.hhs : List V → Nat
  | [] => 0
  | x :: xs => max (V.hh x) (V.hhs xs)
end
mutual
def V.shp (k : Nat) : V → Bool
  | .nils => k == 0 || k == 2 || k == 4
  | .sl xs _ => decide (xs.length ≤ 1000000000) && if k == 0 then V.shpAll 1 xs else if k == 2 then V.shpAll 3 xs else if k == 4 then V.shpAll 5 xs else false
  | .agg cs => if k == 1 then V.shpEach [2] cs else if k == 3 then V.shpEach [6, 4] cs else if k == 5 then V.shpEach [6, 6, 8, 8, 6, 8, 7, 6, 6, 6, 0] cs else false
  | .int j _ => k == 6 && decide (j = .i64)
  | .bool _ => k == 7
  | .str _ => k == 8
  | _ => false
def V.shpAll (k : Nat) : List V → Bool
  | [] => true
  | x :: xs => V.shp k x && V.shpAll k xs
def V.shpEach (ks : List Nat) : List V → Bool
  | [] => ks.isEmpty
  | x :: xs => match ks with
    | [] => false
    | k :: ks => V.shp k x && V.shpEach ks xs
end
def dpI (x : V) : Int := (max 1 ((V.hh x + 2) / 3) : Nat)
def deepG : List V → Option V
  | [x] => if V.shp 0 x && decide (V.hh x ≤ 1000000) then some (.int .i64 (dpI x)) else none
  | _ => none
def deepP (xs : List V) (σ : Objs) : Option (V × Objs) := (deepG xs).map fun v => (v, σ)
example : deepP [.sl [.agg [.sl [.agg [.int .i64 0, .sl [.agg [.int .i64 0, .int .i64 0, .str [], .str [], .int .i64 0, .str [], .bool false, .int .i64 0, .int .i64 0, .int .i64 0, .sl [.agg [.nils]] .no]] .no]] .no]] .no] [] = some (.int .i64 2, []) := by rfl
end Go.Ev
set_option linter.unusedSimpArgs false
set_option linter.unusedVariables false
set_option maxRecDepth 100000
namespace Go.Proofs.YtenicbbhihbkcaaGreatDoor
open Go.Ev
def mvF (d s : Nat) : Step := ⟨some d, none, .mv (.t s) false⟩
def mvT (d s : Nat) : Step := ⟨some d, none, .mv (.t s) true⟩
def c_Z5i : Ev.Fn := ⟨45, [.tmp 2], false, false, (.seq (.ops 0 [⟨some 2, none, .mv (.c (.bool false)) false⟩]) (.seq (.seq (.ops 1 [⟨some 8, none, .call 4 []⟩, ⟨some 9, none, .un .not (.t 8)⟩]) (.cond (.t 9) (.seq (.ops 2 [⟨some 2, none, .mv (.c (.bool false)) false⟩]) .ret) .skip)) (.seq (.seq (.ops 3 [mvF 10 0, ⟨some 11, none, .len (.t 10)⟩, ⟨some 12, none, .bin .gtr .no (.t 11) (.c (.int .i64 60))⟩]) (.cond (.t 12) (.seq (.ops 4 [⟨some 2, none, .mv (.c (.bool true)) false⟩]) .ret) .skip)) (.seq (.ops 5 [⟨some 13, none, .buildSl false 1 0 .any [] false⟩, mvT 3 13]) (.seq (.seq (.ops 6 [mvF 14 0, ⟨some 15, none, .len (.t 14)⟩, ⟨some 16, none, .mv (.c (.int .i64 0)) false⟩]) (.block 0 (.loop [0, 3, 14, 15, 16] [0, 2, 3] [] (.seq (.ops 7 [⟨some 17, none, .bin .lss .no (.t 16) (.t 15)⟩]) (.seq (.cond (.t 17) .skip (.exit 0)) (.seq (.block 1 (.seq (.ops 8 [⟨some 18, none, .iaddr 1 (.t 14) (.t 16)⟩, ⟨some 19, none, .load false 1 (.t 18)⟩, mvT 5 19]) (.seq (.seq (.ops 9 [mvF 20 5, ⟨some 21, none, .len (.t 20)⟩, ⟨some 22, none, .bin .gtr .no (.t 21) (.c (.int .i64 200))⟩]) (.cond (.t 22) (.seq (.ops 10 [⟨some 2, none, .mv (.c (.bool true)) false⟩]) .ret) .skip)) (.seq (.ops 11 [⟨some 6, none, .mv (.c (.int .i64 (-1))) false⟩]) (.seq (.seq (.ops 12 [mvF 23 5, ⟨some 24, none, .len (.t 23)⟩, ⟨some 25, none, .bin .sub .no (.t 24) (.c (.int .i64 1))⟩, mvF 7 25]) (.block 2 (.loop [0, 3, 5, 6, 7, 14, 15, 16] [0, 2, 3, 6, 14, 15, 16] [] (.seq (.seq (.ops 13 [mvF 26 7, ⟨some 27, none, .bin .geq .no (.t 26) (.c (.int .i64 0))⟩]) (.cond (.t 27) .skip (.exit 2))) (.seq (.block 3 (.seq (.ops 15 [mvF 30 5, mvF 31 7, ⟨some 32, none, .iaddr 1 (.t 30) (.t 31)⟩, ⟨some 33, none, .load false 1 (.t 32)⟩, ⟨some 34, none, .bin .eql .no (.t 33) (.c (.int .i64 1))⟩]) (.cond (.t 34) (.ops 16 [mvF 35 7, mvF 6 35]) .skip))) (.ops 14 [mvF 28 7, ⟨some 29, none, .bin .sub .no (.t 28) (.c (.int .i64 1))⟩, mvF 7 29])))))) (.ops 17 [mvT 36 3, mvF 37 6, ⟨some 38, none, .buildSl false 1 1 (.int .i64 0) [(0, (.t 37))] false⟩, ⟨some 39, none, .app false false 1 8 (.t 36) (.t 38) true⟩, mvT 3 39])))))) (.ops 18 [⟨some 40, none, .bin .add .no (.t 16) (.c (.int .i64 1))⟩, mvF 16 40]))))))) (.seq (.ops 19 [mvT 41 0, ⟨some 42, none, .call 6 [.t 41]⟩, mvT 43 3, ⟨some 44, none, .call 5 [(.t 42), (.t 43)]⟩, mvF 2 44]) .ret))))))⟩
theorem ok_c_Z5i : chkFn Tryz.prog 3 c_Z5i = true := chkFn_of Tryz.func3 (by kernel_rfl)
def j_Z5i_0 (M : Mach) (n0 : Nat) (n1 : Nat) (r1 : Rk) (n2 : Nat) (r2 : Rk) (z0 z3 z5 z6 z7 z14 z15 z16 : V) (σ : Objs) : Ro :=
 bd (pu (eB .sub .no z7.ng.ng (.int .i64 1))) fun x18 =>
 bd (fz n2 σ fzD z0) fun y19 =>
 bd (fz n2 σ fzD z3) fun y20 =>
 bd (fz n2 σ fzD z5) fun y21 =>
 bd (fz n2 σ fzD z6) fun y22 =>
 bd (fz n2 σ fzD x18.ng) fun y23 =>
 bd (fz n2 σ fzD z14) fun y24 =>
 bd (fz n2 σ fzD z15) fun y25 =>
 bd (fz n2 σ fzD z16) fun y26 =>
 bd (cuO n2 σ) fun s27 => r2 [y19, y20, y21, y22, y23, y24, y25, y26] s27
def b_Z5i_1 (M : Mach) (n0 : Nat) (n1 : Nat) (r1 : Rk) (n2 : Nat) (r2 : Rk) (z0 z3 z5 z6 z7 z14 z15 z16 : V) (σ : Objs) : Ro :=
 bd (pu (eB .geq .no z7.ng.ng (.int .i64 0))) fun x17 =>
  br x17.ng (
 bd (pu (eI 1 z7.ng.ng z5.ng.ng)) fun x28 =>
 bd (pu (eL σ false 1 x28.ng)) fun x29 =>
 bd (pu (eB .eql .no x29.ng (.int .i64 1))) fun x30 =>
  br x30.ng (
  j_Z5i_0 M n0 n1 r1 n2 r2 z0 z3 z5 z7.ng.ng z7 z14 z15 z16 σ) (
  j_Z5i_0 M n0 n1 r1 n2 r2 z0 z3 z5 z6 z7 z14 z15 z16 σ)) (
 bd (fz n2 σ fzD z0) fun y31 =>
 bd (fz n2 σ fzD .any) fun y32 =>
 bd (fz n2 σ fzD z3) fun y33 =>
 bd (fz n2 σ fzD z6) fun y34 =>
 bd (fz n2 σ fzD z14) fun y35 =>
 bd (fz n2 σ fzD z15) fun y36 =>
 bd (fz n2 σ fzD z16) fun y37 =>
 bd (cuO n2 σ) fun s38 =>
 bd (buildFV false 1 1 (.int .i64 0) [(0, y34.ng.ng)]) fun x39 =>
 bd (appV false false 1 8 s38 y33 x39.ng) fun x40 =>
 bd (pu (eB .add .no y37.ng (.int .i64 1))) fun x41 =>
 bd (fz n1 s38 fzD y31) fun y42 =>
 bd (fz n1 s38 fzD x40) fun y43 =>
 bd (fz n1 s38 fzD y35) fun y44 =>
 bd (fz n1 s38 fzD y36) fun y45 =>
 bd (fz n1 s38 fzD x41.ng) fun y46 =>
 bd (cuO n1 s38) fun s47 => r1 [y42, y43, y44, y45, y46] s47)
def l_Z5i_1 (M : Mach) (n0 : Nat) (n1 : Nat) (r1 : Rk) (n2 : Nat) : Rk := M.fx fun rec vs σ => b_Z5i_1 M n0 n1 r1 n2 rec (vs.getD 0 .undef) (vs.getD 1 .undef) (vs.getD 2 .undef) (vs.getD 3 .undef) (vs.getD 4 .undef) (vs.getD 5 .undef) (vs.getD 6 .undef) (vs.getD 7 .undef) σ
def b_Z5i_0 (M : Mach) (n0 : Nat) (n1 : Nat) (r1 : Rk) (z0 z3 z14 z15 z16 : V) (σ : Objs) : Ro :=
 bd (pu (eB .lss .no z16.ng z15.ng)) fun x6 =>
  br x6.ng (
 bd (pu (eI 1 z16.ng z14.ng)) fun x7 =>
 bd (pu (eL σ false 1 x7.ng)) fun x8 =>
 bd (pu (evLen x8.ng.ng)) fun x9 =>
 bd (pu (eB .gtr .no x9.ng (.int .i64 200))) fun x10 =>
  br x10.ng (
 bd (fz n1 σ fzD z0) fun y11 =>
 bd (fz n1 σ fzD (.bool true)) fun y12 =>
 bd (fz n1 σ fzD z3) fun y13 =>
 bd (cuO n1 σ) fun s14 =>
 bd (oK false y12) (nK n0 s14)) (
 bd (pu (evLen x8.ng.ng)) fun x15 =>
 bd (pu (eB .sub .no x15.ng (.int .i64 1))) fun x16 =>
 bd (fz σ.length σ fzD z0) fun y48 =>
 bd (fz σ.length σ fzD z3) fun y49 =>
 bd (fz σ.length σ fzD x8) fun y50 =>
 bd (fz σ.length σ fzD (.int .i64 (-1))) fun y51 =>
 bd (fz σ.length σ fzD x16.ng) fun y52 =>
 bd (fz σ.length σ fzD z14) fun y53 =>
 bd (fz σ.length σ fzD z15) fun y54 =>
 bd (fz σ.length σ fzD z16) fun y55 =>
  l_Z5i_1 M n0 n1 r1 σ.length [y48, y49, y50, y51, y52, y53, y54, y55] σ)) (
 bd (fz n1 σ fzD z0) fun y56 =>
 bd (fz n1 σ fzD .any) fun y57 =>
 bd (fz n1 σ fzD z3) fun y58 =>
 bd (cuO n1 σ) fun s59 =>
 bd (M.call 6 [y56.ng] s59) fun p60 =>
 bd (M.call 5 [p60.1.ng, y58.ng] p60.2) fun p61 =>
 bd (oK false p61.1.ng) (nK n0 p61.2))
def l_Z5i_0 (M : Mach) (n0 : Nat) (n1 : Nat) : Rk := M.fx fun rec vs σ => b_Z5i_0 M n0 n1 rec (vs.getD 0 .undef) (vs.getD 1 .undef) (vs.getD 2 .undef) (vs.getD 3 .undef) (vs.getD 4 .undef) σ
def s_Z5i (M : Mach) (a0 : V) (σ : Objs) : Ro :=
 bd (M.call 4 [] σ) fun p0 =>
 bd (pu (evUn .not p0.1.ng)) fun x1 =>
  br x1.ng (
 bd (oK false (.bool false)) (nK σ.length p0.2)) (
 bd (pu (evLen a0.ng.ng)) fun x2 =>
 bd (pu (eB .gtr .no x2.ng (.int .i64 60))) fun x3 =>
  br x3.ng (
 bd (oK false (.bool true)) (nK σ.length p0.2)) (
 bd (buildFV false 1 0 .any []) fun x4 =>
 bd (pu (evLen a0.ng.ng)) fun x5 =>
 bd (fz p0.2.length p0.2 fzD a0) fun y62 =>
 bd (fz p0.2.length p0.2 fzD x4) fun y63 =>
 bd (fz p0.2.length p0.2 fzD a0.ng) fun y64 =>
 bd (fz p0.2.length p0.2 fzD x5) fun y65 =>
 bd (fz p0.2.length p0.2 fzD (.int .i64 0)) fun y66 =>
  l_Z5i_0 M σ.length p0.2.length [y62, y63, y64, y65, y66] p0.2))
theorem k_Z5i (M : Mach) (a0 : V) (σ : Objs) : fnK M c_Z5i [a0] σ = s_Z5i M a0 σ := by kernel_rfl
def c_Z5j : Ev.Fn := ⟨29, [.tmp 0], false, false, (.seq (.ops 0 [⟨some 0, none, .mv (.c (.bool false)) false⟩]) (.seq (.ops 1 [⟨some 8, none, .buildG false 1 16 (.int .u8 0) [(0, (.c (.int .u8 97))), (1, (.c (.int .u8 44))), (2, (.c (.int .u8 32))), (3, (.c (.int .u8 98))), (4, (.c (.int .u8 44))), (5, (.c (.int .u8 32))), (6, (.c (.int .u8 97))), (7, (.c (.int .u8 46))), (8, (.c (.int .u8 120))), (9, (.c (.int .u8 44))), (10, (.c (.int .u8 32))), (11, (.c (.int .u8 97))), (12, (.c (.int .u8 32))), (13, (.c (.int .u8 62))), (14, (.c (.int .u8 32))), (15, (.c (.int .u8 98)))]⟩, ⟨some 9, none, .mark (.t 8)⟩, ⟨some 10, none, .build [(.bool false), (.str []), .nils, .nils] []⟩, ⟨some 11, none, .call 7 [(.t 9), (.t 10)]⟩, mvF 7 11, ⟨some 12, none, .extr (.t 7) 0⟩, ⟨some 13, none, .extr (.t 7) 1⟩, ⟨some 14, none, .extr (.t 7) 2⟩, mvF 1 12, mvF 2 13, mvF 3 14]) (.seq (.ops 2 [mvF 16 1, ⟨some 17, none, .build [(.bool false), (.str []), .nils, .nils] []⟩, ⟨some 18, none, .call 8 [(.t 16), (.t 17), (.c (.int .i64 1000000))]⟩, mvF 15 18, ⟨some 19, none, .extr (.t 15) 0⟩, ⟨some 20, none, .extr (.t 15) 1⟩, ⟨some 21, none, .extr (.t 15) 2⟩, mvF 4 19, mvF 5 20, mvF 6 21]) (.seq (.ops 3 [mvF 22 6, ⟨some 23, none, .bin .eql .ifc (.t 22) (.c .nili)⟩, mvF 24 23, ⟨some 25, (some (24, true)), .mv (.t 4) false⟩, ⟨some 26, (some (24, true)), .buildSl false 1 2 (.int .i64 0) [(0, (.c (.int .i64 2))), (1, (.c (.int .i64 3)))] false⟩, ⟨some 27, (some (24, true)), .call 5 [(.t 25), (.t 26)]⟩, ⟨some 28, none, .pick (.t 24) (.t 27) (.c (.bool false))⟩, mvF 0 28]) .ret))))⟩
theorem ok_c_Z5j : chkFn Tryz.prog 4 c_Z5j = true := chkFn_of Tryz.func4 (by kernel_rfl)
def c_Z57 : Ev.Fn := ⟨18, [.tmp 2], false, false, (.seq (.ops 0 [⟨some 2, none, .mv (.c .nils) false⟩]) (.seq (.seq (.ops 1 [mvT 5 0, ⟨some 6, none, .len (.t 5)⟩, ⟨some 7, none, .mv (.c (.int .i64 0)) false⟩]) (.block 0 (.loop [2, 5, 6, 7] [2] [] (.seq (.ops 2 [⟨some 8, none, .bin .lss .no (.t 7) (.t 6)⟩]) (.seq (.cond (.t 8) .skip (.exit 0)) (.seq (.block 1 (.seq (.ops 3 [⟨some 9, none, .iaddr 1 (.t 5) (.t 7)⟩, ⟨some 10, none, .load false 1 (.t 9)⟩, mvT 4 10]) (.ops 4 [mvT 11 2, mvT 12 4, ⟨some 13, none, .call 9 [(.t 12), (.c (.int .i64 1))]⟩, ⟨some 14, none, .buildSl false 1 1 (.int .i64 0) [(0, (.t 13))] false⟩, ⟨some 15, none, .app false false 1 8 (.t 11) (.t 14) true⟩, mvT 2 15]))) (.ops 5 [⟨some 16, none, .bin .add .no (.t 7) (.c (.int .i64 1))⟩, mvF 7 16]))))))) (.seq (.ops 6 [mvT 17 2, mvT 2 17]) .ret)))⟩
theorem ok_c_Z57 : chkFn Tryz.prog 6 c_Z57 = true := chkFn_of Tryz.func6 (by kernel_rfl)
def b_Z57_0 (M : Mach) (n0 : Nat) (n1 : Nat) (r1 : Rk) (z2 z5 z6 z7 : V) (σ : Objs) : Ro :=
 bd (pu (eB .lss .no z7.ng z6.ng)) fun x1 =>
  br x1.ng (
 bd (pu (eI 1 z7.ng z5.ng)) fun x2 =>
 bd (pu (eL σ false 1 x2.ng)) fun x3 =>
 bd (M.call 9 [x3.ng, (.int .i64 1)] σ) fun p4 =>
 bd (buildFV false 1 1 (.int .i64 0) [(0, p4.1.ng)]) fun x5 =>
 bd (appV false false 1 8 p4.2 z2 x5.ng) fun x6 =>
 bd (pu (eB .add .no z7.ng (.int .i64 1))) fun x7 =>
 bd (fz n1 p4.2 fzD x6) fun y8 =>
 bd (fz n1 p4.2 fzD z5) fun y9 =>
 bd (fz n1 p4.2 fzD z6) fun y10 =>
 bd (fz n1 p4.2 fzD x7.ng) fun y11 =>
 bd (cuO n1 p4.2) fun s12 => r1 [y8, y9, y10, y11] s12) (
 bd (fz n1 σ fzD z2) fun y13 =>
 bd (cuO n1 σ) fun s14 =>
 bd (oK false y13) (nK n0 s14))
def l_Z57_0 (M : Mach) (n0 : Nat) (n1 : Nat) : Rk := M.fx fun rec vs σ => b_Z57_0 M n0 n1 rec (vs.getD 0 .undef) (vs.getD 1 .undef) (vs.getD 2 .undef) (vs.getD 3 .undef) σ
def s_Z57 (M : Mach) (a0 : V) (σ : Objs) : Ro :=
 bd (pu (evLen a0.ng)) fun x0 =>
 bd (fz σ.length σ fzD .nils) fun y15 =>
 bd (fz σ.length σ fzD a0) fun y16 =>
 bd (fz σ.length σ fzD x0) fun y17 =>
 bd (fz σ.length σ fzD (.int .i64 0)) fun y18 =>
  l_Z57_0 M σ.length σ.length [y15, y16, y17, y18] σ
theorem k_Z57 (M : Mach) (a0 : V) (σ : Objs) : fnK M c_Z57 [a0] σ = s_Z57 M a0 σ := by kernel_rfl
def c_Z5k : Ev.Fn := ⟨26, [.tmp 4], false, false, (.seq (.ops 0 [⟨some 4, none, .mv (.c (.bool false)) false⟩]) (.seq (.seq (.ops 1 [mvF 6 0, ⟨some 7, none, .len (.t 6)⟩, mvF 8 1, ⟨some 9, none, .len (.t 8)⟩, ⟨some 10, none, .bin .neq .no (.t 7) (.t 9)⟩]) (.cond (.t 10) (.seq (.ops 2 [⟨some 4, none, .mv (.c (.bool false)) false⟩]) .ret) .skip)) (.seq (.seq (.ops 3 [⟨some 5, none, .mv (.c (.int .i64 0)) false⟩]) (.block 0 (.loop [0, 1, 5] [4] [] (.seq (.seq (.ops 4 [mvF 11 5, mvF 12 0, ⟨some 13, none, .len (.t 12)⟩, ⟨some 14, none, .bin .lss .no (.t 11) (.t 13)⟩]) (.cond (.t 14) .skip (.exit 0))) (.seq (.block 1 (.seq (.drw 6 [⟨mvF 17 0, 0, []⟩, ⟨mvF 18 5, 1, []⟩, ⟨⟨some 19, none, .iaddr 1 (.t 17) (.t 18)⟩, 2, []⟩, ⟨⟨some 20, none, .load false 1 (.t 19)⟩, 3, []⟩, ⟨mvF 21 1, 4, []⟩, ⟨mvF 22 5, 5, []⟩, ⟨⟨some 23, none, .iaddr 1 (.t 21) (.t 22)⟩, 6, []⟩, ⟨⟨some 24, none, .load false 1 (.t 23)⟩, 7, []⟩, ⟨⟨some 25, none, .bin .neq .no (.t 20) (.t 24)⟩, 8, []⟩]) (.cond (.t 25) (.seq (.ops 7 [⟨some 4, none, .mv (.c (.bool false)) false⟩]) .ret) .skip))) (.ops 5 [mvF 15 5, ⟨some 16, none, .bin .add .no (.t 15) (.c (.int .i64 1))⟩, mvF 5 16])))))) (.seq (.ops 8 [⟨some 4, none, .mv (.c (.bool true)) false⟩]) .ret))))⟩
theorem ok_c_Z5k : chkFn Tryz.prog 5 c_Z5k = true := chkFn_of Tryz.func5 (by kernel_rfl)
def b_Z5k_0 (M : Mach) (n0 : Nat) (n1 : Nat) (r1 : Rk) (z0 z1 z5 : V) (σ : Objs) : Ro :=
 bd (pu (evLen z0.ng.ng)) fun x3 =>
 bd (pu (eB .lss .no z5.ng.ng x3.ng)) fun x4 =>
  br x4.ng (
 bd (pu (eI 1 z5.ng.ng z0.ng.ng)) fun x5 =>
 bd (pu (eL σ false 1 x5.ng)) fun x6 =>
 bd (pu (eI 1 z5.ng.ng z1.ng.ng)) fun x7 =>
 bd (pu (eL σ false 1 x7.ng)) fun x8 =>
 bd (pu (eB .neq .no x6.ng x8.ng)) fun x9 =>
  br x9.ng (
 bd (fz n1 σ fzD (.bool false)) fun y10 =>
 bd (cuO n1 σ) fun s11 =>
 bd (oK false y10) (nK n0 s11)) (
 bd (pu (eB .add .no z5.ng.ng (.int .i64 1))) fun x12 =>
 bd (fz n1 σ fzD z0) fun y13 =>
 bd (fz n1 σ fzD z1) fun y14 =>
 bd (fz n1 σ fzD x12.ng) fun y15 =>
 bd (cuO n1 σ) fun s16 => r1 [y13, y14, y15] s16)) (
 bd (fz n1 σ fzD .any) fun y17 =>
 bd (cuO n1 σ) fun s18 =>
 bd (oK false (.bool true)) (nK n0 s18))
def l_Z5k_0 (M : Mach) (n0 : Nat) (n1 : Nat) : Rk := M.fx fun rec vs σ => b_Z5k_0 M n0 n1 rec (vs.getD 0 .undef) (vs.getD 1 .undef) (vs.getD 2 .undef) σ
def s_Z5k (M : Mach) (a0 a1 : V) (σ : Objs) : Ro :=
 bd (pu (evLen a0.ng.ng)) fun x0 =>
 bd (pu (evLen a1.ng.ng)) fun x1 =>
 bd (pu (eB .neq .no x0.ng x1.ng)) fun x2 =>
  br x2.ng (
 bd (oK false (.bool false)) (nK σ.length σ)) (
 bd (fz σ.length σ fzD a0) fun y19 =>
 bd (fz σ.length σ fzD a1) fun y20 =>
 bd (fz σ.length σ fzD (.int .i64 0)) fun y21 =>
  l_Z5k_0 M σ.length σ.length [y19, y20, y21] σ)
theorem k_Z5k (M : Mach) (a0 a1 : V) (σ : Objs) : fnK M c_Z5k [a0, a1] σ = s_Z5k M a0 a1 σ := by kernel_rfl
def c_Z6g : Ev.Fn := ⟨14, [.tmp 4, .tmp 5, .tmp 6], false, false, (.seq (.ops 0 [⟨some 3, none, .box (.t 1)⟩, ⟨some 4, none, .mv (.c .nils) false⟩, ⟨some 5, none, .mv (.c (.int .i64 0)) false⟩, ⟨some 6, none, .mv (.c (.int .i64 0)) false⟩]) (.seq (.drw 1 [⟨mvT 7 0, 0, []⟩, ⟨⟨some 9, none, .load true 4 (.t 3)⟩, 2, []⟩, ⟨⟨some 8, none, .call 11 [.t 7]⟩, 1, [1]⟩, ⟨⟨some 10, none, .call 10 [(.t 8), (.t 9)]⟩, 3, []⟩, ⟨⟨some 11, none, .extr (.t 10) 0⟩, 4, []⟩, ⟨⟨some 12, none, .extr (.t 10) 1⟩, 5, []⟩, ⟨⟨some 13, none, .extr (.t 10) 2⟩, 6, []⟩, ⟨mvF 4 11, 7, []⟩, ⟨mvF 5 12, 8, []⟩, ⟨mvF 6 13, 9, []⟩]) .ret))⟩
theorem ok_c_Z6g : chkFn Tryz.prog 7 c_Z6g = true := chkFn_of Tryz.func7 (by kernel_rfl)
def c_Z58 : Ev.Fn := ⟨73, [.tmp 6, .tmp 7, .tmp 8], false, false, (.seq (.ops 0 [⟨some 4, none, .box (.t 1)⟩, ⟨some 6, none, .mv (.c .nils) false⟩, ⟨some 7, none, .mv (.c (.int .i64 0)) false⟩, ⟨some 8, none, .mv (.c .nili) false⟩]) (.seq (.seq (.ops 1 [⟨some 15, none, .load true 4 (.t 4)⟩, mvF 16 0, ⟨some 17, none, .buildSl false 1 1 .nils [(0, (.t 16))] false⟩, ⟨some 18, none, .call 12 [(.t 15), (.t 17)]⟩, mvF 9 18]) (.seq (.ops 2 [mvF 19 9, ⟨some 20, none, .bin .neq .ifc (.t 19) (.c .nili)⟩]) (.cond (.t 20) (.seq (.ops 3 [mvF 21 9, ⟨some 6, none, .mv (.c .nils) false⟩, ⟨some 7, none, .mv (.c (.int .i64 0)) false⟩, mvF 8 21]) .ret) .skip))) (.seq (.ops 4 [⟨some 22, none, .load true 4 (.t 4)⟩, mvF 23 2, ⟨some 24, none, .build [(.bool false), (.str []), .nils, .nils, (.int .i64 0), (.int .i64 0)] [(0, 4, (.t 22)), (4, 1, (.c (.int .i64 0))), (5, 1, (.t 23))]⟩, ⟨some 25, none, .box (.t 24)⟩, mvF 10 25]) (.seq (.seq (.ops 5 [mvF 26 0, ⟨some 27, none, .len (.t 26)⟩, ⟨some 28, none, .bin .sub .no (.t 27) (.c (.int .i64 1))⟩, mvF 11 28]) (.block 0 (.loop [0, 6, 10, 11] [6, 7, 8, 10] [6] (.seq (.seq (.ops 6 [mvF 29 11, ⟨some 30, none, .bin .geq .no (.t 29) (.c (.int .i64 0))⟩]) (.cond (.t 30) .skip (.exit 0))) (.seq (.block 1 (.seq (.ops 8 [mvF 33 0, mvF 34 6, ⟨some 35, none, .call 14 [.t 34]⟩, mvF 36 11, ⟨some 37, none, .buildSl false 1 1 (.int .i64 0) [(0, (.t 36))] false⟩, ⟨some 38, none, .app false false 1 8 (.t 35) (.t 37) true⟩, ⟨some 39, none, .call 13 [(.t 33), (.t 38)]⟩, mvT 12 39]) (.seq (.seq (.ops 9 [mvF 40 12, ⟨some 41, none, .len (.t 40)⟩, ⟨some 42, none, .bin .eql .no (.t 41) (.c (.int .i64 0))⟩]) (.cond (.t 42) (.exit 1) .skip)) (.seq (.ops 10 [mvF 44 10, mvF 45 0, mvF 46 11, mvF 47 11, ⟨some 48, none, .bin .add .no (.t 47) (.c (.int .i64 1))⟩, ⟨some 49, none, .cut 1 (.t 45) (some (.t 46)) (some (.t 48)) none⟩, mvT 50 12, ⟨some 51, none, .call 15 [(.t 44), (.f 16), (.t 49), (.t 50)]⟩, mvF 43 51, ⟨some 52, none, .extr (.t 43) 0⟩, ⟨some 53, none, .extr (.t 43) 1⟩, mvF 13 52, mvF 14 53]) (.seq (.seq (.ops 11 [mvF 54 14, ⟨some 55, none, .bin .neq .ifc (.t 54) (.c .nili)⟩]) (.cond (.t 55) (.seq (.drw 12 [⟨mvF 56 10, 0, []⟩, ⟨⟨some 57, none, .nilc (.t 56)⟩, 1, []⟩, ⟨⟨some 58, none, .faddr 4 (.t 57)⟩, 2, []⟩, ⟨⟨some 59, none, .load false 1 (.t 58)⟩, 3, []⟩, ⟨mvF 60 14, 4, []⟩, ⟨⟨some 6, none, .mv (.c .nils) false⟩, 5, []⟩, ⟨mvF 7 59, 6, []⟩, ⟨mvF 8 60, 7, []⟩]) .ret) .skip)) (.seq (.ops 13 [mvF 61 13]) (.cond (.t 61) (.ops 14 [mvT 62 6, mvF 63 11, ⟨some 64, none, .buildSl false 1 1 (.int .i64 0) [(0, (.t 63))] false⟩, ⟨some 65, none, .appG false false 1 8 (.t 62) (.t 64)⟩, mvT 6 65]) .skip))))))) (.ops 7 [mvF 31 11, ⟨some 32, none, .bin .sub .no (.t 31) (.c (.int .i64 1))⟩, mvF 11 32])))))) (.seq (.ops 15 [mvF 66 6, ⟨some 67, none, .call 17 [.t 66]⟩]) (.seq (.drw 16 [⟨mvT 68 6, 0, []⟩, ⟨mvF 69 10, 1, []⟩, ⟨⟨some 70, none, .nilc (.t 69)⟩, 2, []⟩, ⟨⟨some 71, none, .faddr 4 (.t 70)⟩, 3, []⟩, ⟨⟨some 72, none, .load false 1 (.t 71)⟩, 4, []⟩, ⟨mvT 6 68, 5, []⟩, ⟨mvF 7 72, 6, []⟩, ⟨⟨some 8, none, .mv (.c .nili) false⟩, 7, []⟩]) .ret))))))⟩
theorem ok_c_Z58 : chkFn Tryz.prog 8 c_Z58 = true := chkFn_of Tryz.func8 (by kernel_rfl)
def c_Z4c : Ev.Fn := ⟨19, [.tmp 4], false, false, (.seq (.ops 0 [⟨some 4, none, .mv (.c (.int .i64 0)) false⟩]) (.seq (.seq (.ops 1 [mvF 6 0, ⟨some 7, none, .len (.t 6)⟩, ⟨some 8, none, .mv (.c (.int .i64 0)) false⟩]) (.block 0 (.loop [0, 1, 7, 8] [4] [] (.seq (.ops 2 [⟨some 9, none, .bin .lss .no (.t 8) (.t 7)⟩]) (.seq (.cond (.t 9) .skip (.exit 0)) (.seq (.block 1 (.seq (.ops 3 [mvF 10 8, mvF 5 10]) (.seq (.ops 4 [mvF 11 1, mvF 12 0, mvF 13 5, ⟨some 14, none, .iaddr 1 (.t 12) (.t 13)⟩, ⟨some 15, none, .load false 1 (.t 14)⟩, ⟨some 16, none, .bin .eql .no (.t 11) (.t 15)⟩]) (.cond (.t 16) (.seq (.ops 5 [mvF 17 5, mvF 4 17]) .ret) .skip)))) (.ops 6 [⟨some 18, none, .bin .add .no (.t 8) (.c (.int .i64 1))⟩, mvF 8 18]))))))) (.seq (.ops 7 [⟨some 4, none, .mv (.c (.int .i64 (-1))) false⟩]) .ret)))⟩
theorem ok_c_Z4c : chkFn Tryz.prog 9 c_Z4c = true := chkFn_of Tryz.func9 (by kernel_rfl)
def b_Z4c_0 (M : Mach) (n0 : Nat) (n1 : Nat) (r1 : Rk) (z0 z1 z7 z8 : V) (σ : Objs) : Ro :=
 bd (pu (eB .lss .no z8.ng z7.ng)) fun x1 =>
  br x1.ng (
 bd (pu (eI 1 z8.ng.ng.ng.ng z0.ng.ng)) fun x2 =>
 bd (pu (eL σ false 1 x2.ng)) fun x3 =>
 bd (pu (eB .eql .no z1.ng.ng x3.ng)) fun x4 =>
  br x4.ng (
 bd (fz n1 σ fzD z8.ng.ng.ng.ng) fun y5 =>
 bd (cuO n1 σ) fun s6 =>
 bd (oK false y5) (nK n0 s6)) (
 bd (pu (eB .add .no z8.ng (.int .i64 1))) fun x7 =>
 bd (fz n1 σ fzD z0) fun y8 =>
 bd (fz n1 σ fzD z1) fun y9 =>
 bd (fz n1 σ fzD z7) fun y10 =>
 bd (fz n1 σ fzD x7.ng) fun y11 =>
 bd (cuO n1 σ) fun s12 => r1 [y8, y9, y10, y11] s12)) (
 bd (fz n1 σ fzD .any) fun y13 =>
 bd (cuO n1 σ) fun s14 =>
 bd (oK false (.int .i64 (-1))) (nK n0 s14))
def l_Z4c_0 (M : Mach) (n0 : Nat) (n1 : Nat) : Rk := M.fx fun rec vs σ => b_Z4c_0 M n0 n1 rec (vs.getD 0 .undef) (vs.getD 1 .undef) (vs.getD 2 .undef) (vs.getD 3 .undef) σ
def s_Z4c (M : Mach) (a0 a1 : V) (σ : Objs) : Ro :=
 bd (pu (evLen a0.ng.ng)) fun x0 =>
 bd (fz σ.length σ fzD a0) fun y15 =>
 bd (fz σ.length σ fzD a1) fun y16 =>
 bd (fz σ.length σ fzD x0) fun y17 =>
 bd (fz σ.length σ fzD (.int .i64 0)) fun y18 =>
  l_Z4c_0 M σ.length σ.length [y15, y16, y17, y18] σ
theorem k_Z4c (M : Mach) (a0 a1 : V) (σ : Objs) : fnK M c_Z4c [a0, a1] σ = s_Z4c M a0 a1 σ := by kernel_rfl
def c_Z63 : Ev.Fn := ⟨7, [.tmp 2], false, false, (.seq (.ops 0 [⟨some 2, none, .mv (.c .nils) false⟩]) (.seq (.ops 1 [mvT 3 0, ⟨some 4, none, .call 22 [.t 3]⟩, ⟨some 5, none, .call 21 [.t 4]⟩, ⟨some 6, none, .call 20 [.t 5]⟩, mvT 2 6]) .ret))⟩
theorem ok_c_Z63 : chkFn Tryz.prog 11 c_Z63 = true := chkFn_of Tryz.func11 (by kernel_rfl)
def c_Z6h : Ev.Fn := ⟨63, [.tmp 4, .tmp 5, .tmp 6], false, false, (.seq (.ops 0 [⟨some 3, none, .box (.t 1)⟩, ⟨some 4, none, .mv (.c .nils) false⟩, ⟨some 5, none, .mv (.c (.int .i64 0)) false⟩, ⟨some 6, none, .mv (.c (.int .i64 0)) false⟩]) (.seq (.seq (.ops 1 [⟨some 12, none, .load true 4 (.t 3)⟩, ⟨some 13, none, .call 18 [.t 12]⟩, ⟨some 14, none, .un .not (.t 13)⟩]) (.cond (.t 14) (.seq (.ops 2 [⟨some 4, none, .mv (.c .nils) false⟩, ⟨some 5, none, .mv (.c (.int .i64 11)) false⟩, ⟨some 6, none, .mv (.c (.int .i64 0)) false⟩]) .ret) .skip)) (.seq (.ops 3 [mvF 15 0, mvT 7 15]) (.seq (.seq (.ops 4 [⟨some 8, none, .mv (.c (.int .i64 0)) false⟩]) (.block 0 (.loop [0, 3, 7, 8] [3, 4, 5, 6, 7] [] (.seq (.seq (.ops 5 [mvF 16 8, mvF 17 0, ⟨some 18, none, .len (.t 17)⟩, ⟨some 19, none, .bin .lss .no (.t 16) (.t 18)⟩]) (.cond (.t 19) .skip (.exit 0))) (.seq (.block 1 (.seq (.ops 7 [mvF 22 0, mvF 23 8, ⟨some 24, none, .iaddr 6 (.t 22) (.t 23)⟩, ⟨some 25, none, .faddr 0 (.t 24)⟩, ⟨some 26, none, .load false 1 (.t 25)⟩, ⟨some 27, none, .bin .eql .no (.t 26) (.c (.int .i64 0))⟩]) (.cond (.t 27) (.seq (.ops 8 [mvT 28 0, mvF 29 8, ⟨some 30, none, .bin .add .no (.t 29) (.c (.int .i64 1))⟩, ⟨some 31, none, .cut 6 (.t 28) none (some (.t 30)) none⟩, mvF 7 31]) (.exit 0)) .skip))) (.ops 6 [mvF 20 8, ⟨some 21, none, .bin .add .no (.t 20) (.c (.int .i64 1))⟩, mvF 8 21])))))) (.seq (.ops 9 [mvT 32 7, ⟨some 33, none, .load true 4 (.t 3)⟩, ⟨some 34, none, .build [.nils, (.bool false), (.str []), .nils, .nils, (.int .i64 0), (.int .i64 0), (.int .i64 0), (.bool false)] [(0, 1, (.t 32)), (1, 4, (.t 33))]⟩, ⟨some 35, none, .box (.t 34)⟩, mvF 9 35]) (.seq (.ops 10 [mvF 37 9, ⟨some 38, none, .call 19 [(.t 37), (.c (.int .i64 0)), (.c (.int .i64 0)), (.c (.int .i64 1))]⟩, mvF 36 38, ⟨some 39, none, .extr (.t 36) 0⟩, ⟨some 40, none, .extr (.t 36) 1⟩, mvF 10 39, mvF 11 40]) (.seq (.seq (.ops 11 [mvF 41 9, ⟨some 42, none, .nilc (.t 41)⟩, ⟨some 43, none, .faddr 5 (.t 42)⟩, ⟨some 44, none, .load false 1 (.t 43)⟩, ⟨some 45, none, .bin .neq .no (.t 44) (.c (.int .i64 0))⟩]) (.cond (.t 45) (.seq (.drw 12 [⟨mvF 46 9, 0, []⟩, ⟨⟨some 47, none, .nilc (.t 46)⟩, 1, []⟩, ⟨⟨some 48, none, .faddr 5 (.t 47)⟩, 2, []⟩, ⟨⟨some 49, none, .load false 1 (.t 48)⟩, 3, []⟩, ⟨mvF 50 9, 4, []⟩, ⟨⟨some 51, none, .nilc (.t 50)⟩, 5, []⟩, ⟨⟨some 52, none, .faddr 6 (.t 51)⟩, 6, []⟩, ⟨⟨some 53, none, .load false 1 (.t 52)⟩, 7, []⟩, ⟨⟨some 4, none, .mv (.c .nils) false⟩, 8, []⟩, ⟨mvF 5 49, 9, []⟩, ⟨mvF 6 53, 10, []⟩]) .ret) .skip)) (.seq (.seq (.ops 13 [mvF 54 9, ⟨some 55, none, .nilc (.t 54)⟩, ⟨some 56, none, .faddr 8 (.t 55)⟩, ⟨some 57, none, .load false 1 (.t 56)⟩]) (.cond (.t 57) (.seq (.drw 14 [⟨mvF 58 9, 0, []⟩, ⟨⟨some 59, none, .nilc (.t 58)⟩, 1, []⟩, ⟨⟨some 60, none, .faddr 7 (.t 59)⟩, 2, []⟩, ⟨⟨some 61, none, .load false 1 (.t 60)⟩, 3, []⟩, ⟨⟨some 4, none, .mv (.c .nils) false⟩, 4, []⟩, ⟨⟨some 5, none, .mv (.c (.int .i64 20)) false⟩, 5, []⟩, ⟨mvF 6 61, 6, []⟩]) .ret) .skip)) (.seq (.ops 15 [mvF 62 10, mvF 4 62, ⟨some 5, none, .mv (.c (.int .i64 0)) false⟩, ⟨some 6, none, .mv (.c (.int .i64 0)) false⟩]) .ret)))))))))⟩
theorem ok_c_Z6h : chkFn Tryz.prog 10 c_Z6h = true := chkFn_of Tryz.func10 (by kernel_rfl)
def c_Z59 : Ev.Fn := ⟨30, [.tmp 4], false, false, (.seq (.ops 0 [⟨some 2, none, .box (.t 0)⟩, ⟨some 4, none, .mv (.c .nili) false⟩]) (.seq (.seq (.ops 1 [⟨some 9, none, .load true 4 (.t 2)⟩, ⟨some 10, none, .call 23 [.t 9]⟩, mvF 5 10]) (.seq (.ops 2 [mvF 11 5, ⟨some 12, none, .bin .neq .ifc (.t 11) (.c .nili)⟩]) (.cond (.t 12) (.seq (.ops 3 [mvF 13 5, mvF 4 13]) .ret) .skip))) (.seq (.seq (.ops 4 [mvT 14 1, ⟨some 15, none, .len (.t 14)⟩, ⟨some 16, none, .mv (.c (.int .i64 0)) false⟩]) (.block 0 (.loop [2, 14, 15, 16] [4] [] (.seq (.ops 5 [⟨some 17, none, .bin .lss .no (.t 16) (.t 15)⟩]) (.seq (.cond (.t 17) .skip (.exit 0)) (.seq (.block 1 (.seq (.ops 6 [mvF 18 16, ⟨some 19, none, .iaddr 1 (.t 14) (.t 16)⟩, ⟨some 20, none, .load false 1 (.t 19)⟩, mvF 6 18, mvT 7 20]) (.seq (.ops 7 [mvT 21 7, ⟨some 22, none, .load true 4 (.t 2)⟩, ⟨some 23, none, .call 24 [(.t 21), (.t 22)]⟩, mvF 8 23]) (.seq (.ops 8 [mvF 24 8, ⟨some 25, none, .bin .neq .ifc (.t 24) (.c .nili)⟩]) (.cond (.t 25) (.seq (.ops 9 [mvF 26 6, mvF 27 8, ⟨some 28, none, .call 25 [(.c (.int .i64 1)), (.t 26), (.t 27)]⟩, mvF 4 28]) .ret) .skip))))) (.ops 10 [⟨some 29, none, .bin .add .no (.t 16) (.c (.int .i64 1))⟩, mvF 16 29]))))))) (.seq (.ops 11 [⟨some 4, none, .mv (.c .nili) false⟩]) .ret))))⟩
theorem ok_c_Z59 : chkFn Tryz.prog 12 c_Z59 = true := chkFn_of Tryz.func12 (by kernel_rfl)
def c_Z3r : Ev.Fn := ⟨8, [.tmp 2], true, false, (.seq (.ops 0 [⟨some 2, none, .mv (.c .nils) false⟩]) (.seq (.seq (.ops 1 [mvF 3 0, ⟨some 4, none, .bin .eql .row (.t 3) (.c .nils)⟩]) (.cond (.t 4) (.seq (.ops 2 [⟨some 2, none, .mv (.c .nils) false⟩]) .ret) .skip)) (.seq (.ops 3 [⟨some 5, none, .buildSl false 1 0 .any [] false⟩, mvT 6 0, ⟨some 7, none, .app false false 1 8 (.t 5) (.t 6) true⟩, mvT 2 7]) .ret)))⟩
theorem ok_c_Z3r : chkFn Tryz.prog 14 c_Z3r = true := chkFn_of Tryz.func14 (by kernel_rfl)
def c_Z5a : Ev.Fn := ⟨24, [.tmp 4], false, false, (.seq (.ops 0 [⟨some 4, none, .mv (.c .nils) false⟩]) (.seq (.seq (.ops 1 [mvT 7 0, ⟨some 8, none, .len (.t 7)⟩, ⟨some 9, none, .mv (.c (.int .i64 0)) false⟩]) (.block 0 (.loop [1, 4, 7, 8, 9] [4] [] (.seq (.ops 2 [⟨some 10, none, .bin .lss .no (.t 9) (.t 8)⟩]) (.seq (.cond (.t 10) .skip (.exit 0)) (.seq (.block 1 (.seq (.ops 3 [mvF 11 9, ⟨some 12, none, .iaddr 1 (.t 7) (.t 9)⟩, ⟨some 13, none, .load true 1 (.t 12)⟩, ⟨some 6, none, .alloc [.nils]⟩, mvF 5 11, ⟨none, none, .store 1 (.t 6) (.t 13) false⟩]) (.seq (.ops 4 [mvF 14 1, mvF 15 5, ⟨some 16, none, .call 26 [(.t 14), (.t 15)]⟩, ⟨some 17, none, .un .not (.t 16)⟩]) (.cond (.t 17) (.ops 5 [mvT 18 4, ⟨some 19, none, .load true 1 (.t 6)⟩, ⟨some 20, none, .buildSl true 1 1 (.agg [.nils]) [(0, (.t 19))] false⟩, ⟨some 21, none, .app false true 1 24 (.t 18) (.t 20) true⟩, mvT 4 21]) .skip)))) (.ops 6 [⟨some 22, none, .bin .add .no (.t 9) (.c (.int .i64 1))⟩, mvF 9 22]))))))) (.seq (.ops 7 [mvT 23 4, mvT 4 23]) .ret)))⟩
theorem ok_c_Z5a : chkFn Tryz.prog 13 c_Z5a = true := chkFn_of Tryz.func13 (by kernel_rfl)
def c_Zy : Ev.Fn := ⟨55, [.tmp 8, .tmp 9], false, false, (.seq (.ops 0 [⟨some 8, none, .mv (.c (.bool false)) false⟩, ⟨some 9, none, .mv (.c .nili) false⟩]) (.seq (.drw 1 [⟨mvF 13 1, 0, []⟩, ⟨mvT 14 2, 1, []⟩, ⟨mvT 15 3, 2, []⟩, ⟨mvF 16 0, 3, []⟩, ⟨⟨some 17, none, .nilc (.t 16)⟩, 4, []⟩, ⟨⟨some 18, none, .faddr 0 (.t 17)⟩, 5, []⟩, ⟨⟨some 19, none, .load true 4 (.t 18)⟩, 6, []⟩, ⟨mvF 20 0, 7, []⟩, ⟨⟨some 21, none, .nilc (.t 20)⟩, 8, []⟩, ⟨⟨some 22, none, .faddr 5 (.t 21)⟩, 9, []⟩, ⟨⟨some 23, none, .load false 1 (.t 22)⟩, 10, []⟩, ⟨mvF 24 0, 11, []⟩, ⟨⟨some 25, none, .nilc (.t 24)⟩, 12, []⟩, ⟨⟨some 26, none, .faddr 4 (.t 25)⟩, 13, []⟩, ⟨⟨some 27, none, .load false 1 (.t 26)⟩, 14, []⟩, ⟨⟨some 28, none, .bin .sub .no (.t 23) (.t 27)⟩, 15, []⟩, ⟨⟨some 10, none, .alloc [(.int .i64 0), (.int .i64 0), .nils, (.int .i64 0), (.str []), (.int .i64 0)]⟩, 20, []⟩, ⟨⟨some 29, none, .callv (.t 13) [(.t 14), (.t 15), (.t 19), (.t 28)]⟩, 16, [16]⟩, ⟨mvF 12 29, 17, []⟩, ⟨⟨some 30, none, .extr (.t 12) 0⟩, 18, []⟩, ⟨⟨some 31, none, .extr (.t 12) 1⟩, 19, []⟩, ⟨⟨none, none, .store 6 (.t 10) (.t 30) false⟩, 21, []⟩, ⟨mvF 11 31, 22, []⟩]) (.seq (.seq (.ops 2 [mvF 32 11, ⟨some 33, none, .bin .neq .ifc (.t 32) (.c .nili)⟩]) (.cond (.t 33) (.seq (.ops 3 [mvF 34 0, mvF 35 0, ⟨some 36, none, .nilc (.t 35)⟩, ⟨some 37, none, .faddr 5 (.t 36)⟩, ⟨some 38, none, .load false 1 (.t 37)⟩, ⟨some 39, none, .mm true [(.t 38), (.c (.int .i64 0))]⟩, ⟨some 40, none, .nilc (.t 34)⟩, ⟨some 41, none, .faddr 4 (.t 40)⟩, ⟨none, none, .store 1 (.t 41) (.t 39) false⟩]) (.seq (.ops 4 [⟨some 42, none, .call 27 [(.c (.int .i64 21)), (.c (.int .i64 0))]⟩, ⟨some 8, none, .mv (.c (.bool false)) false⟩, mvF 9 42]) .ret)) .skip)) (.seq (.drw 5 [⟨mvF 43 0, 0, []⟩, ⟨⟨some 44, none, .nilc (.t 43)⟩, 1, []⟩, ⟨⟨some 45, none, .faddr 4 (.t 44)⟩, 2, []⟩, ⟨⟨some 46, none, .load false 1 (.t 45)⟩, 3, []⟩, ⟨⟨some 47, none, .faddr 5 (.t 10)⟩, 4, []⟩, ⟨⟨some 48, none, .load false 1 (.t 47)⟩, 5, []⟩, ⟨⟨some 49, none, .bin .add .no (.t 46) (.t 48)⟩, 6, []⟩, ⟨⟨some 50, none, .nilc (.t 43)⟩, 7, []⟩, ⟨⟨some 51, none, .faddr 4 (.t 50)⟩, 8, []⟩, ⟨⟨none, none, .store 1 (.t 51) (.t 49) false⟩, 9, []⟩]) (.seq (.ops 6 [⟨some 52, none, .faddr 0 (.t 10)⟩, ⟨some 53, none, .load false 1 (.t 52)⟩, ⟨some 54, none, .bin .eql .no (.t 53) (.c (.int .i64 2))⟩, mvF 8 54, ⟨some 9, none, .mv (.c .nili) false⟩]) .ret)))))⟩
theorem ok_c_Zy : chkFn Tryz.prog 15 c_Zy = true := chkFn_of Tryz.func15 (by kernel_rfl)
def c_Z1r : Ev.Fn := ⟨39, [.cell 8 true 6, .tmp 9], false, false, (.seq (.ops 0 [⟨some 6, none, .box (.t 2)⟩, ⟨some 8, none, .alloc [(.int .i64 0), (.int .i64 0), .nils, (.int .i64 0), (.str []), (.int .i64 0)]⟩, ⟨some 9, none, .mv (.c .nili) false⟩]) (.seq (.ops 1 [⟨some 15, none, .load true 4 (.t 6)⟩, mvT 16 0, mvT 17 1, ⟨some 18, none, .buildSl false 1 2 .nils [(0, (.t 16)), (1, (.t 17))] false⟩, ⟨some 19, none, .call 28 [(.t 15), (.t 18)]⟩, mvF 14 19, ⟨some 20, none, .extr (.t 14) 0⟩, ⟨some 21, none, .extr (.t 14) 1⟩, mvF 10 20, mvF 11 21]) (.seq (.seq (.ops 2 [mvF 22 11, ⟨some 23, none, .bin .neq .ifc (.t 22) (.c .nili)⟩]) (.cond (.t 23) (.seq (.ops 3 [⟨some 24, none, .build [(.int .i64 0), (.int .i64 0), .nils, (.int .i64 0), (.str []), (.int .i64 0)] []⟩, mvF 25 11, ⟨none, none, .store 6 (.t 8) (.t 24) false⟩, mvF 9 25]) .ret) .skip)) (.seq (.ops 4 [mvF 27 10, mvF 28 3, ⟨some 29, none, .call 29 [(.t 27), (.c (.int .i64 0)), (.c (.int .i64 1)), (.t 28)]⟩, mvF 26 29, ⟨some 30, none, .extr (.t 26) 0⟩, ⟨some 31, none, .extr (.t 26) 1⟩, ⟨some 32, none, .extr (.t 26) 2⟩, ⟨some 12, none, .alloc [(.int .i64 0), (.int .i64 0), .nils, (.int .i64 0), (.str []), (.int .i64 0)]⟩, ⟨none, none, .store 6 (.t 12) (.t 30) false⟩, mvF 13 31, mvF 11 32]) (.seq (.ops 5 [⟨some 33, none, .load true 6 (.t 12)⟩, mvF 34 13, mvF 35 11, ⟨some 36, none, .call 30 [(.t 33), (.t 34), (.t 35), (.c (.int .i64 1)), (.c (.int .i64 2))]⟩, ⟨some 37, none, .extr (.t 36) 0⟩, ⟨some 38, none, .extr (.t 36) 1⟩, ⟨none, none, .store 6 (.t 8) (.t 37) false⟩, mvF 9 38]) .ret)))))⟩
theorem ok_c_Z1r : chkFn Tryz.prog 16 c_Z1r = true := chkFn_of Tryz.func16 (by kernel_rfl)
def c_Z4f : Ev.Fn := ⟨28, [], false, false, (.seq (.ops 0 [mvF 4 0, ⟨some 5, none, .len (.t 4)⟩, ⟨some 6, none, .bin .sub .no (.t 5) (.c (.int .i64 1))⟩, ⟨some 2, none, .mv (.c (.int .i64 0)) false⟩, mvF 3 6]) (.block 0 (.loop [0, 2, 3] [] [] (.seq (.seq (.ops 1 [mvF 7 2, mvF 8 3, ⟨some 9, none, .bin .lss .no (.t 7) (.t 8)⟩]) (.cond (.t 9) .skip (.exit 0))) (.seq (.block 1 (.drw 3 [⟨mvF 14 0, 0, []⟩, ⟨mvF 15 2, 1, []⟩, ⟨mvF 16 0, 2, []⟩, ⟨mvF 17 3, 3, []⟩, ⟨mvF 18 0, 4, []⟩, ⟨mvF 19 3, 5, []⟩, ⟨⟨some 20, none, .iaddr 1 (.t 18) (.t 19)⟩, 6, []⟩, ⟨⟨some 21, none, .load false 1 (.t 20)⟩, 7, []⟩, ⟨mvF 22 0, 8, []⟩, ⟨mvF 23 2, 9, []⟩, ⟨⟨some 24, none, .iaddr 1 (.t 22) (.t 23)⟩, 10, []⟩, ⟨⟨some 25, none, .load false 1 (.t 24)⟩, 11, []⟩, ⟨⟨some 26, none, .iaddr 1 (.t 14) (.t 15)⟩, 12, []⟩, ⟨⟨none, none, .store 1 (.t 26) (.t 21) false⟩, 13, []⟩, ⟨⟨some 27, none, .iaddr 1 (.t 16) (.t 17)⟩, 14, []⟩, ⟨⟨none, none, .store 1 (.t 27) (.t 25) false⟩, 15, []⟩])) (.ops 2 [mvF 10 2, ⟨some 11, none, .bin .add .no (.t 10) (.c (.int .i64 1))⟩, mvF 12 3, ⟨some 13, none, .bin .sub .no (.t 12) (.c (.int .i64 1))⟩, mvF 2 11, mvF 3 13]))))))⟩
theorem ok_c_Z4f : chkFn Tryz.prog 17 c_Z4f = true := chkFn_of Tryz.func17 (by kernel_rfl)
def c_Z5l : Ev.Fn := ⟨32, [.tmp 2], false, false, (.seq (.ops 0 [⟨some 2, none, .mv (.c .nils) false⟩]) (.seq (.ops 1 [⟨some 7, none, .buildSl false 1 0 .any [] false⟩, mvT 3 7, ⟨some 4, none, .mv (.c (.int .i64 0)) false⟩]) (.seq (.block 0 (.loop [0, 3, 4] [2, 3] [] (.seq (.seq (.ops 2 [mvF 8 4, mvF 9 0, ⟨some 10, none, .len (.t 9)⟩, ⟨some 11, none, .bin .lss .no (.t 8) (.t 10)⟩]) (.cond (.t 11) .skip (.exit 0))) (.block 1 (.seq (.ops 3 [mvF 13 0, mvF 14 4, ⟨some 15, none, .call 40 [(.t 13), (.t 14)]⟩, mvF 12 15, ⟨some 16, none, .extr (.t 12) 0⟩, ⟨some 17, none, .extr (.t 12) 1⟩, mvF 5 16, mvF 6 17]) (.seq (.seq (.ops 4 [mvF 18 4, ⟨some 19, none, .bin .gtr .no (.t 18) (.c (.int .i64 0))⟩, mvF 20 19, ⟨some 21, (some (20, false)), .mv (.t 5) false⟩, ⟨some 22, (some (20, false)), .bin .neq .no (.t 21) (.c (.int .i64 65279))⟩, ⟨some 23, none, .pick (.t 20) (.c (.bool true)) (.t 22)⟩]) (.cond (.t 23) (.ops 5 [mvT 24 3, mvF 25 5, ⟨some 26, none, .buildSl false 1 1 (.int .i64 0) [(0, (.t 25))] false⟩, ⟨some 27, none, .app false false 1 8 (.t 24) (.t 26) true⟩, mvT 3 27]) .skip)) (.ops 6 [mvF 28 4, mvF 29 6, ⟨some 30, none, .bin .add .no (.t 28) (.t 29)⟩, mvF 4 30]))))))) (.seq (.ops 7 [mvT 31 3, mvT 2 31]) .ret))))⟩
theorem ok_c_Z5l : chkFn Tryz.prog 22 c_Z5l = true := chkFn_of Tryz.func22 (by kernel_rfl)
def c_Z5o : Ev.Fn := ⟨52, [.tmp 2], false, false, (.seq (.ops 0 [⟨some 2, none, .mv (.c .nils) false⟩]) (.seq (.ops 1 [⟨some 6, none, .buildSl false 1 0 .any [] false⟩, mvT 3 6]) (.seq (.seq (.ops 2 [⟨some 4, none, .mv (.c (.int .i64 0)) false⟩]) (.block 0 (.loop [0, 3, 4] [2, 3] [] (.seq (.seq (.ops 3 [mvF 7 4, mvF 8 0, ⟨some 9, none, .len (.t 8)⟩, ⟨some 10, none, .bin .lss .no (.t 7) (.t 9)⟩]) (.cond (.t 10) .skip (.exit 0))) (.seq (.block 1 (.seq (.ops 5 [mvF 13 0, mvF 14 4, ⟨some 15, none, .iaddr 1 (.t 13) (.t 14)⟩, ⟨some 16, none, .load false 1 (.t 15)⟩, mvF 5 16]) (.seq (.seq (.ops 6 [mvF 17 5, ⟨some 18, none, .bin .eql .no (.t 17) (.c (.int .i64 13))⟩, mvF 19 18, ⟨some 20, (some (19, true)), .mv (.t 4) false⟩, ⟨some 21, (some (19, true)), .bin .add .no (.t 20) (.c (.int .i64 1))⟩, ⟨some 22, (some (19, true)), .mv (.t 0) false⟩, ⟨some 23, (some (19, true)), .len (.t 22)⟩, ⟨some 24, (some (19, true)), .bin .lss .no (.t 21) (.t 23)⟩, ⟨some 25, none, .pick (.t 19) (.t 24) (.c (.bool false))⟩, mvF 26 25, ⟨some 27, (some (26, true)), .mv (.t 0) false⟩, ⟨some 28, (some (26, true)), .mv (.t 4) false⟩, ⟨some 29, (some (26, true)), .bin .add .no (.t 28) (.c (.int .i64 1))⟩, ⟨some 30, (some (26, true)), .iaddr 1 (.t 27) (.t 29)⟩, ⟨some 31, (some (26, true)), .load false 1 (.t 30)⟩, ⟨some 32, (some (26, true)), .bin .eql .no (.t 31) (.c (.int .i64 10))⟩, ⟨some 33, none, .pick (.t 26) (.t 32) (.c (.bool false))⟩]) (.cond (.t 33) (.exit 1) .skip)) (.seq (.seq (.ops 7 [mvF 34 5, ⟨some 35, none, .bin .eql .no (.t 34) (.c (.int .i64 13))⟩, mvF 36 35, ⟨some 37, (some (36, false)), .mv (.t 5) false⟩, ⟨some 38, (some (36, false)), .bin .eql .no (.t 37) (.c (.int .i64 12))⟩, ⟨some 39, none, .pick (.t 36) (.c (.bool true)) (.t 38)⟩]) (.cond (.t 39) (.ops 8 [⟨some 5, none, .mv (.c (.int .i64 10)) false⟩]) .skip)) (.seq (.seq (.ops 9 [mvF 40 5, ⟨some 41, none, .bin .eql .no (.t 40) (.c (.int .i64 0))⟩, mvF 42 41, ⟨some 43, (some (42, false)), .mv (.t 5) false⟩, ⟨some 44, (some (42, false)), .call 39 [.t 43]⟩, ⟨some 45, (some (42, false)), .un .not (.t 44)⟩, ⟨some 46, none, .pick (.t 42) (.c (.bool true)) (.t 45)⟩]) (.cond (.t 46) (.ops 10 [⟨some 5, none, .mv (.c (.int .i64 65533)) false⟩]) .skip)) (.ops 11 [mvT 47 3, mvF 48 5, ⟨some 49, none, .buildSl false 1 1 (.int .i64 0) [(0, (.t 48))] false⟩, ⟨some 50, none, .app false false 1 8 (.t 47) (.t 49) true⟩, mvT 3 50])))))) (.ops 4 [mvF 11 4, ⟨some 12, none, .bin .add .no (.t 11) (.c (.int .i64 1))⟩, mvF 4 12])))))) (.seq (.ops 12 [mvT 51 3, mvT 2 51]) .ret))))⟩
theorem ok_c_Z5o : chkFn Tryz.prog 21 c_Z5o = true := chkFn_of Tryz.func21 (by kernel_rfl)
def c_Z5z : Ev.Fn := ⟨20, [.tmp 2], false, false, (.seq (.ops 0 [⟨some 2, none, .mv (.c .nils) false⟩]) (.seq (.ops 1 [⟨some 6, none, .buildSl true 6 0 (.agg []) [] false⟩, mvT 3 6, ⟨some 4, none, .mv (.c (.int .i64 0)) false⟩]) (.block 0 (.loop [0, 3, 4] [2] [] (.block 1 (.seq (.ops 2 [mvF 7 0, mvF 8 4, ⟨some 9, none, .call 38 [(.t 7), (.t 8)]⟩, ⟨some 5, none, .alloc [(.int .i64 0), (.int .i64 0), (.int .i64 0), (.str []), (.str []), (.bool false)]⟩, ⟨none, none, .store 6 (.t 5) (.t 9) false⟩]) (.seq (.ops 3 [mvT 10 3, ⟨some 11, none, .load true 6 (.t 5)⟩, ⟨some 12, none, .buildSl true 6 1 (.agg [(.int .i64 0), (.int .i64 0), (.int .i64 0), (.str []), (.str []), (.bool false)]) [(0, (.t 11))] false⟩, ⟨some 13, none, .app false true 6 64 (.t 10) (.t 12) true⟩, mvT 3 13]) (.seq (.seq (.ops 4 [⟨some 14, none, .faddr 0 (.t 5)⟩, ⟨some 15, none, .load false 1 (.t 14)⟩, ⟨some 16, none, .bin .eql .no (.t 15) (.c (.int .i64 0))⟩]) (.cond (.t 16) (.seq (.ops 5 [mvT 17 3, mvT 2 17]) .ret) .skip)) (.ops 6 [⟨some 18, none, .faddr 2 (.t 5)⟩, ⟨some 19, none, .load false 1 (.t 18)⟩, mvF 4 19])))))))))⟩
theorem ok_c_Z5z : chkFn Tryz.prog 20 c_Z5z = true := chkFn_of Tryz.func20 (by kernel_rfl)
def c_Z6e : Ev.Fn := ⟨52, [.tmp 2], false, false, (.seq (.ops 0 [⟨some 1, none, .box (.t 0)⟩, ⟨some 2, none, .mv (.c (.bool false)) false⟩]) (.seq (.seq (.ops 1 [⟨some 4, none, .faddr 2 (.t 1)⟩, ⟨some 5, none, .load false 1 (.t 4)⟩, ⟨some 6, none, .len (.t 5)⟩, ⟨some 7, none, .faddr 3 (.t 1)⟩, ⟨some 8, none, .load false 1 (.t 7)⟩, ⟨some 9, none, .len (.t 8)⟩, ⟨some 10, none, .bin .neq .no (.t 6) (.t 9)⟩, mvF 11 10, ⟨some 12, (some (11, false)), .faddr 1 (.t 1)⟩, ⟨some 13, (some (11, false)), .load false 1 (.t 12)⟩, ⟨some 14, (some (11, false)), .call 31 [.t 13]⟩, ⟨some 15, (some (11, false)), .un .not (.t 14)⟩, ⟨some 16, none, .pick (.t 11) (.c (.bool true)) (.t 15)⟩]) (.cond (.t 16) (.seq (.ops 2 [⟨some 2, none, .mv (.c (.bool false)) false⟩]) .ret) .skip)) (.seq (.seq (.ops 3 [⟨some 3, none, .mv (.c (.int .i64 0)) false⟩]) (.block 0 (.loop [1, 3] [2] [] (.seq (.seq (.ops 4 [mvF 17 3, ⟨some 18, none, .faddr 2 (.t 1)⟩, ⟨some 19, none, .load false 1 (.t 18)⟩, ⟨some 20, none, .len (.t 19)⟩, ⟨some 21, none, .bin .lss .no (.t 17) (.t 20)⟩]) (.cond (.t 21) .skip (.exit 0))) (.seq (.block 1 (.seq (.drw 6 [⟨⟨some 24, none, .faddr 2 (.t 1)⟩, 0, []⟩, ⟨⟨some 25, none, .load false 1 (.t 24)⟩, 1, []⟩, ⟨mvF 26 3, 2, []⟩, ⟨⟨some 27, none, .iaddr 1 (.t 25) (.t 26)⟩, 3, []⟩, ⟨⟨some 28, none, .load false 1 (.t 27)⟩, 4, []⟩, ⟨⟨some 29, none, .call 32 [.t 28]⟩, 5, []⟩, ⟨⟨some 30, none, .un .not (.t 29)⟩, 6, []⟩, ⟨mvF 31 30, 7, []⟩, ⟨⟨some 32, (some (31, false)), .faddr 2 (.t 1)⟩, 8, []⟩, ⟨⟨some 33, (some (31, false)), .load false 1 (.t 32)⟩, 9, []⟩, ⟨⟨some 34, (some (31, false)), .mv (.t 3) false⟩, 10, []⟩, ⟨⟨some 35, (some (31, false)), .cut 1 (.t 33) none (some (.t 34)) none⟩, 11, []⟩, ⟨⟨some 36, (some (31, false)), .faddr 2 (.t 1)⟩, 12, []⟩, ⟨⟨some 37, (some (31, false)), .load false 1 (.t 36)⟩, 13, []⟩, ⟨⟨some 38, (some (31, false)), .mv (.t 3) false⟩, 14, []⟩, ⟨⟨some 39, (some (31, false)), .iaddr 1 (.t 37) (.t 38)⟩, 15, []⟩, ⟨⟨some 40, (some (31, false)), .load false 1 (.t 39)⟩, 16, []⟩, ⟨⟨some 41, (some (31, false)), .call 33 [(.t 35), (.t 40)]⟩, 17, []⟩, ⟨⟨some 42, none, .pick (.t 31) (.c (.bool true)) (.t 41)⟩, 18, []⟩, ⟨mvF 43 42, 19, []⟩, ⟨⟨some 44, (some (43, false)), .faddr 3 (.t 1)⟩, 20, []⟩, ⟨⟨some 45, (some (43, false)), .load false 1 (.t 44)⟩, 21, []⟩, ⟨⟨some 46, (some (43, false)), .mv (.t 3) false⟩, 22, []⟩, ⟨⟨some 47, (some (43, false)), .iaddr 1 (.t 45) (.t 46)⟩, 23, []⟩, ⟨⟨some 48, (some (43, false)), .load false 1 (.t 47)⟩, 24, []⟩, ⟨⟨some 49, (some (43, false)), .call 31 [.t 48]⟩, 25, []⟩, ⟨⟨some 50, (some (43, false)), .un .not (.t 49)⟩, 26, []⟩, ⟨⟨some 51, none, .pick (.t 43) (.c (.bool true)) (.t 50)⟩, 27, []⟩]) (.cond (.t 51) (.seq (.ops 7 [⟨some 2, none, .mv (.c (.bool false)) false⟩]) .ret) .skip))) (.ops 5 [mvF 22 3, ⟨some 23, none, .bin .add .no (.t 22) (.c (.int .i64 1))⟩, mvF 3 23])))))) (.seq (.ops 8 [⟨some 2, none, .mv (.c (.bool true)) false⟩]) .ret))))⟩
theorem ok_c_Z6e : chkFn Tryz.prog 18 c_Z6e = true := chkFn_of Tryz.func18 (by kernel_rfl)
def c_Z13 : Ev.Fn := ⟨61, [.tmp 8, .tmp 9], false, false, (.seq (.ops 0 [⟨some 8, none, .mv (.c .nils) false⟩, ⟨some 9, none, .mv (.c (.int .i64 0)) false⟩]) (.seq (.ops 1 [⟨some 13, none, .buildSl true 1 0 (.agg []) [] false⟩, mvT 10 13]) (.seq (.block 0 (.loop [0, 1, 2, 3, 10] [1, 8, 9, 10] [] (.seq (.seq (.ops 2 [mvF 14 0, ⟨some 15, none, .nilc (.t 14)⟩, ⟨some 16, none, .faddr 5 (.t 15)⟩, ⟨some 17, none, .load false 1 (.t 16)⟩, ⟨some 18, none, .bin .eql .no (.t 17) (.c (.int .i64 0))⟩]) (.cond (.t 18) .skip (.exit 0))) (.block 1 (.seq (.ops 3 [mvF 20 0, mvF 21 0, mvF 22 1, ⟨some 23, none, .call 35 [(.t 21), (.t 22)]⟩, mvF 24 2, mvF 25 3, ⟨some 26, none, .call 34 [(.t 20), (.t 23), (.t 24), (.t 25)]⟩, mvF 19 26, ⟨some 27, none, .extr (.t 19) 0⟩, ⟨some 28, none, .extr (.t 19) 1⟩, ⟨some 11, none, .alloc [.nils]⟩, ⟨none, none, .store 1 (.t 11) (.t 27) false⟩, mvF 12 28]) (.seq (.ops 4 [mvT 29 10, ⟨some 30, none, .load true 1 (.t 11)⟩, ⟨some 31, none, .buildSl true 1 1 (.agg [.nils]) [(0, (.t 30))] false⟩, ⟨some 32, none, .app false true 1 24 (.t 29) (.t 31) true⟩, mvT 10 32]) (.seq (.ops 5 [mvF 33 0, mvF 34 12, ⟨some 35, none, .call 35 [(.t 33), (.t 34)]⟩, mvF 1 35]) (.seq (.seq (.ops 6 [mvF 36 0, ⟨some 37, none, .nilc (.t 36)⟩, ⟨some 38, none, .faddr 5 (.t 37)⟩, ⟨some 39, none, .load false 1 (.t 38)⟩, ⟨some 40, none, .bin .neq .no (.t 39) (.c (.int .i64 0))⟩, mvF 41 40, ⟨some 42, (some (41, false)), .mv (.t 0) false⟩, ⟨some 43, (some (41, false)), .mv (.t 1) false⟩, ⟨some 44, (some (41, false)), .call 36 [(.t 42), (.t 43)]⟩, ⟨some 45, (some (41, false)), .field false 0 1 (.t 44)⟩, ⟨some 46, (some (41, false)), .mv (.t 2) false⟩, ⟨some 47, (some (41, false)), .bin .eql .no (.t 45) (.t 46)⟩, ⟨some 48, none, .pick (.t 41) (.c (.bool true)) (.t 47)⟩]) (.cond (.t 48) (.exit 0) .skip)) (.seq (.seq (.ops 7 [mvF 49 0, mvF 50 1, ⟨some 51, none, .call 36 [(.t 49), (.t 50)]⟩, ⟨some 52, none, .field false 0 1 (.t 51)⟩, ⟨some 53, none, .bin .neq .no (.t 52) (.c (.int .i64 18))⟩]) (.cond (.t 53) (.ops 8 [mvF 54 0, mvF 55 1, ⟨some 56, none, .call 37 [(.t 54), (.c (.int .i64 10)), (.t 55)]⟩]) .skip)) (.ops 9 [mvF 57 1, ⟨some 58, none, .bin .add .no (.t 57) (.c (.int .i64 1))⟩, mvF 1 58])))))))))) (.seq (.ops 10 [mvT 59 10, mvF 60 1, mvT 8 59, mvF 9 60]) .ret))))⟩
theorem ok_c_Z13 : chkFn Tryz.prog 19 c_Z13 = true := chkFn_of Tryz.func19 (by kernel_rfl)
def c_Z3j : Ev.Fn := ⟨52, [.tmp 2], false, false, (.seq (.ops 0 [⟨some 1, none, .box (.t 0)⟩, ⟨some 2, none, .mv (.c .nili) false⟩]) (.seq (.ops 1 [⟨some 6, none, .faddr 2 (.t 1)⟩, ⟨some 7, none, .load false 1 (.t 6)⟩, ⟨some 8, none, .len (.t 7)⟩, ⟨some 9, none, .faddr 3 (.t 1)⟩, ⟨some 10, none, .load false 1 (.t 9)⟩, ⟨some 11, none, .len (.t 10)⟩, ⟨some 12, none, .bin .eql .no (.t 8) (.t 11)⟩, mvF 13 12, ⟨some 14, (some (13, true)), .faddr 1 (.t 1)⟩, ⟨some 15, (some (13, true)), .load false 1 (.t 14)⟩, ⟨some 16, (some (13, true)), .call 41 [.t 15]⟩, ⟨some 17, none, .pick (.t 13) (.t 16) (.c (.bool false))⟩, mvF 3 17]) (.seq (.seq (.ops 2 [⟨some 18, none, .faddr 2 (.t 1)⟩, ⟨some 19, none, .load false 1 (.t 18)⟩, ⟨some 20, none, .len (.t 19)⟩, ⟨some 21, none, .mv (.c (.int .i64 0)) false⟩]) (.block 0 (.loop [1, 3, 19, 20, 21] [2, 3] [] (.seq (.ops 3 [⟨some 22, none, .bin .lss .no (.t 21) (.t 20)⟩]) (.seq (.cond (.t 22) .skip (.exit 0)) (.seq (.block 1 (.seq (.ops 4 [mvF 23 21, ⟨some 24, none, .iaddr 1 (.t 19) (.t 21)⟩, ⟨some 25, none, .load false 1 (.t 24)⟩, mvF 4 23, mvF 5 25]) (.ops 5 [mvF 26 3, mvF 27 26, ⟨some 28, (some (27, true)), .mv (.t 5) false⟩, ⟨some 29, (some (27, true)), .call 42 [.t 28]⟩, ⟨some 30, none, .pick (.t 27) (.t 29) (.c (.bool false))⟩, mvF 31 30, ⟨some 32, (some (31, true)), .faddr 2 (.t 1)⟩, ⟨some 33, (some (31, true)), .load false 1 (.t 32)⟩, ⟨some 34, (some (31, true)), .mv (.t 4) false⟩, ⟨some 35, (some (31, true)), .cut 1 (.t 33) none (some (.t 34)) none⟩, ⟨some 36, (some (31, true)), .mv (.t 5) false⟩, ⟨some 37, (some (31, true)), .call 43 [(.t 35), (.t 36)]⟩, ⟨some 38, (some (31, true)), .un .not (.t 37)⟩, ⟨some 39, none, .pick (.t 31) (.t 38) (.c (.bool false))⟩, mvF 40 39, ⟨some 41, (some (40, true)), .faddr 3 (.t 1)⟩, ⟨some 42, (some (40, true)), .load false 1 (.t 41)⟩, ⟨some 43, (some (40, true)), .mv (.t 4) false⟩, ⟨some 44, (some (40, true)), .iaddr 1 (.t 42) (.t 43)⟩, ⟨some 45, (some (40, true)), .load false 1 (.t 44)⟩, ⟨some 46, (some (40, true)), .call 41 [.t 45]⟩, ⟨some 47, none, .pick (.t 40) (.t 46) (.c (.bool false))⟩, mvF 3 47]))) (.ops 6 [⟨some 48, none, .bin .add .no (.t 21) (.c (.int .i64 1))⟩, mvF 21 48]))))))) (.seq (.seq (.ops 7 [mvF 49 3, ⟨some 50, none, .un .not (.t 49)⟩]) (.cond (.t 50) (.seq (.ops 8 [⟨some 51, none, .call 27 [(.c (.int .i64 11)), (.c (.int .i64 0))]⟩, mvF 2 51]) .ret) .skip)) (.seq (.ops 9 [⟨some 2, none, .mv (.c .nili) false⟩]) .ret)))))⟩
theorem ok_c_Z3j : chkFn Tryz.prog 23 c_Z3j = true := chkFn_of Tryz.func23 (by kernel_rfl)
def c_Z3i : Ev.Fn := ⟨23, [.tmp 4], false, false, (.seq (.ops 0 [⟨some 3, none, .box (.t 1)⟩, ⟨some 4, none, .mv (.c .nili) false⟩]) (.seq (.seq (.ops 1 [⟨some 6, none, .load true 4 (.t 3)⟩, ⟨some 7, none, .call 23 [.t 6]⟩, mvF 5 7]) (.seq (.ops 2 [mvF 8 5, ⟨some 9, none, .bin .neq .ifc (.t 8) (.c .nili)⟩]) (.cond (.t 9) (.seq (.ops 3 [mvF 10 5, mvF 4 10]) .ret) .skip))) (.seq (.block 0 (.seq (.ops 4 [mvF 12 0, ⟨some 13, none, .call 44 [.t 12]⟩, ⟨some 14, none, .bin .gtr .no (.t 13) (.c (.int .i64 32))⟩, mvF 11 14]) (.cond (.t 11) (.seq (.ops 5 [⟨some 15, none, .call 27 [(.c (.int .i64 12)), (.c (.int .i64 0))]⟩, mvF 4 15]) .ret) (.seq (.ops 6 [⟨some 17, none, .load true 4 (.t 3)⟩, ⟨some 18, none, .build [(.bool false), (.str []), .nils, .nils] [(0, 4, (.t 17))]⟩, mvT 19 0, ⟨some 20, none, .call 45 [(.t 18), (.t 19), (.c (.bool true))]⟩, ⟨some 21, none, .un .not (.t 20)⟩, mvF 16 21]) (.cond (.t 16) (.seq (.ops 7 [⟨some 22, none, .call 27 [(.c (.int .i64 10)), (.c (.int .i64 0))]⟩, mvF 4 22]) .ret) .skip))))) (.seq (.ops 8 [⟨some 4, none, .mv (.c .nili) false⟩]) .ret))))⟩
theorem ok_c_Z3i : chkFn Tryz.prog 24 c_Z3i = true := chkFn_of Tryz.func24 (by kernel_rfl)
end Go.Proofs.YtenicbbhihbkcaaGreatDoor
set_option linter.unusedSimpArgs false
set_option linter.unusedVariables false
set_option maxRecDepth 100000
namespace Go.Proofs.YtenicbbhihbkcaaGreatDoor
open Go.Ev
def c_Z40 : Ev.Fn := ⟨9, [.tmp 4], false, false, (.seq (.ops 0 [⟨some 4, none, .mv (.c (.bool false)) false⟩]) (.seq (.ops 1 [mvT 5 0, mvF 6 1, ⟨some 7, none, .call 9 [(.t 5), (.t 6)]⟩, ⟨some 8, none, .bin .geq .no (.t 7) (.c (.int .i64 0))⟩, mvF 4 8]) .ret))⟩
theorem ok_c_Z40 : chkFn Tryz.prog 26 c_Z40 = true := chkFn_of Tryz.func26 (by kernel_rfl)
def c_Z1t : Ev.Fn := ⟨22, [.tmp 4, .tmp 5], false, true, (.seq (.ops 0 [⟨some 2, none, .box (.t 0)⟩, ⟨some 4, none, .mv (.c .nilp) false⟩, ⟨some 5, none, .mv (.c .nili) false⟩]) (.seq (.ops 1 [mvF 9 1, ⟨some 10, none, .load true 4 (.t 2)⟩, ⟨some 11, none, .call 46 [(.t 9), (.t 10)]⟩, mvF 8 11, ⟨some 12, none, .extr (.t 8) 0⟩, ⟨some 13, none, .extr (.t 8) 1⟩, ⟨some 6, none, .alloc [.nils, .nils, .nils, .nils, (.int .i64 0)]⟩, ⟨none, none, .store 5 (.t 6) (.t 12) false⟩, mvF 7 13]) (.seq (.seq (.ops 2 [mvF 14 7, ⟨some 15, none, .bin .neq .ifc (.t 14) (.c .nili)⟩]) (.cond (.t 15) (.seq (.ops 3 [mvF 16 7, ⟨some 4, none, .mv (.c .nilp) false⟩, mvF 5 16]) .ret) .skip)) (.seq (.ops 4 [mvT 17 1, ⟨some 18, none, .load true 4 (.t 2)⟩, ⟨some 19, none, .load true 5 (.t 6)⟩, ⟨some 20, none, .build [.nils, (.bool false), (.str []), .nils, .nils, .nils, .nils, .nils, .nils, (.int .i64 0)] [(0, 1, (.t 17)), (1, 4, (.t 18)), (5, 5, (.t 19))]⟩, ⟨some 21, none, .box (.t 20)⟩, mvF 4 21, ⟨some 5, none, .mv (.c .nili) false⟩]) .ret))))⟩
theorem ok_c_Z1t : chkFn Tryz.prog 28 c_Z1t = true := chkFn_of Tryz.func28 (by kernel_rfl)
def c_Z0 : Ev.Fn := ⟨25, [.cell 8 true 6, .tmp 9, .tmp 10], false, false, (.seq (.ops 0 [⟨some 4, none, .box (.t 0)⟩, ⟨some 5, none, .box (.t 1)⟩, ⟨some 6, none, .box (.t 2)⟩, ⟨some 8, none, .alloc [(.int .i64 0), (.int .i64 0), .nils, (.int .i64 0), (.str []), (.int .i64 0)]⟩, ⟨some 9, none, .mv (.c (.bool false)) false⟩, ⟨some 10, none, .mv (.c .nili) false⟩]) (.seq (.drw 1 [⟨⟨some 11, none, .load false 1 (.t 4)⟩, 0, []⟩, ⟨⟨some 12, none, .load false 1 (.t 4)⟩, 1, []⟩, ⟨⟨some 13, none, .nilc (.t 12)⟩, 2, []⟩, ⟨⟨some 14, none, .faddr 5 (.t 13)⟩, 3, []⟩, ⟨⟨some 15, none, .load true 5 (.t 14)⟩, 4, []⟩, ⟨⟨some 16, none, .load false 1 (.t 5)⟩, 5, []⟩, ⟨⟨some 17, none, .load false 1 (.t 6)⟩, 6, []⟩, ⟨mvF 19 3, 8, []⟩, ⟨⟨some 20, none, .mkfn 49 [] [(.t 4), (.t 5), (.t 6)]⟩, 9, []⟩, ⟨⟨some 18, none, .call 48 [(.t 15), (.t 16), (.t 17)]⟩, 7, [0]⟩, ⟨⟨some 21, none, .call 47 [(.t 11), (.t 18), (.t 19), (.t 20)]⟩, 10, []⟩, ⟨⟨some 22, none, .extr (.t 21) 0⟩, 11, []⟩, ⟨⟨some 23, none, .extr (.t 21) 1⟩, 12, []⟩, ⟨⟨some 24, none, .extr (.t 21) 2⟩, 13, []⟩, ⟨⟨none, none, .store 6 (.t 8) (.t 22) false⟩, 14, []⟩, ⟨mvF 9 23, 15, []⟩, ⟨mvF 10 24, 16, []⟩]) .ret))⟩
theorem ok_c_Z0 : chkFn Tryz.prog 29 c_Z0 = true := chkFn_of Tryz.func29 (by kernel_rfl)
def c_Z1s : Ev.Fn := ⟨22, [.cell 10 true 6, .tmp 11], false, false, (.seq (.ops 0 [⟨some 5, none, .box (.t 0)⟩, ⟨some 10, none, .alloc [(.int .i64 0), (.int .i64 0), .nils, (.int .i64 0), (.str []), (.int .i64 0)]⟩, ⟨some 11, none, .mv (.c .nili) false⟩]) (.seq (.seq (.ops 1 [mvF 12 2, ⟨some 13, none, .bin .neq .ifc (.t 12) (.c .nili)⟩]) (.cond (.t 13) (.seq (.ops 2 [⟨some 14, none, .build [(.int .i64 0), (.int .i64 0), .nils, (.int .i64 0), (.str []), (.int .i64 0)] []⟩, mvF 15 2, ⟨none, none, .store 6 (.t 10) (.t 14) false⟩, mvF 11 15]) .ret) .skip)) (.seq (.ops 3 [mvF 16 4, ⟨some 17, none, .faddr 0 (.t 5)⟩, ⟨none, none, .store 1 (.t 17) (.t 16) false⟩]) (.seq (.seq (.ops 4 [mvF 18 1]) (.cond (.t 18) (.ops 5 [mvF 19 3, ⟨some 20, none, .faddr 0 (.t 5)⟩, ⟨none, none, .store 1 (.t 20) (.t 19) false⟩]) .skip)) (.seq (.ops 6 [⟨some 21, none, .load true 6 (.t 5)⟩, ⟨none, none, .store 6 (.t 10) (.t 21) false⟩, ⟨some 11, none, .mv (.c .nili) false⟩]) .ret)))))⟩
theorem ok_c_Z1s : chkFn Tryz.prog 30 c_Z1s = true := chkFn_of Tryz.func30 (by kernel_rfl)
def c_Z5m : Ev.Fn := ⟨55, [.tmp 4, .tmp 5], false, false, (.seq (.ops 0 [⟨some 4, none, .mv (.c (.int .i64 0)) false⟩, ⟨some 5, none, .mv (.c (.int .i64 0)) false⟩]) (.seq (.seq (.ops 1 [⟨some 6, none, .mv (.c (.int .i64 1)) false⟩]) (.block 0 (.loop [0, 1, 6] [0, 1, 4, 5] [] (.seq (.seq (.ops 2 [mvF 8 6, ⟨some 9, none, .bin .leq .no (.t 8) (.c (.int .i64 4))⟩, mvF 10 9, ⟨some 11, (some (10, true)), .mv (.t 1) false⟩, ⟨some 12, (some (10, true)), .mv (.t 6) false⟩, ⟨some 13, (some (10, true)), .bin .add .no (.t 11) (.t 12)⟩, ⟨some 14, (some (10, true)), .mv (.t 0) false⟩, ⟨some 15, (some (10, true)), .len (.t 14)⟩, ⟨some 16, (some (10, true)), .bin .leq .no (.t 13) (.t 15)⟩, ⟨some 17, none, .pick (.t 10) (.t 16) (.c (.bool false))⟩]) (.cond (.t 17) .skip (.exit 0))) (.seq (.block 1 (.seq (.ops 4 [mvF 20 0, mvF 21 1, mvF 22 1, mvF 23 6, ⟨some 24, none, .bin .add .no (.t 22) (.t 23)⟩, ⟨some 25, none, .cut 1 (.t 20) (some (.t 21)) (some (.t 24)) none⟩, ⟨some 26, none, .call 67 [.t 25]⟩]) (.cond (.t 26) (.seq (.ops 5 [mvT 27 0, mvF 28 1, mvF 29 1, mvF 30 6, ⟨some 31, none, .bin .add .no (.t 29) (.t 30)⟩, ⟨some 32, none, .cut 1 (.t 27) (some (.t 28)) (some (.t 31)) none⟩, ⟨some 33, none, .call 68 [.t 32]⟩, mvF 34 6, mvF 4 33, mvF 5 34]) .ret) .skip))) (.ops 3 [mvF 18 6, ⟨some 19, none, .bin .add .no (.t 18) (.c (.int .i64 1))⟩, mvF 6 19])))))) (.seq (.seq (.ops 6 [⟨some 7, none, .mv (.c (.int .i64 3)) false⟩]) (.block 2 (.loop [0, 1, 7] [4, 5] [] (.seq (.seq (.ops 7 [mvF 35 7, ⟨some 36, none, .bin .gtr .no (.t 35) (.c (.int .i64 1))⟩]) (.cond (.t 36) .skip (.exit 2))) (.seq (.block 3 (.seq (.ops 9 [mvF 39 1, mvF 40 7, ⟨some 41, none, .bin .add .no (.t 39) (.t 40)⟩, mvF 42 0, ⟨some 43, none, .len (.t 42)⟩, ⟨some 44, none, .bin .leq .no (.t 41) (.t 43)⟩, mvF 45 44, ⟨some 46, (some (45, true)), .mv (.t 0) false⟩, ⟨some 47, (some (45, true)), .mv (.t 1) false⟩, ⟨some 48, (some (45, true)), .mv (.t 1) false⟩, ⟨some 49, (some (45, true)), .mv (.t 7) false⟩, ⟨some 50, (some (45, true)), .bin .add .no (.t 48) (.t 49)⟩, ⟨some 51, (some (45, true)), .cut 1 (.t 46) (some (.t 47)) (some (.t 50)) none⟩, ⟨some 52, (some (45, true)), .call 69 [.t 51]⟩, ⟨some 53, none, .pick (.t 45) (.t 52) (.c (.bool false))⟩]) (.cond (.t 53) (.seq (.ops 10 [mvF 54 7, ⟨some 4, none, .mv (.c (.int .i64 65533)) false⟩, mvF 5 54]) .ret) .skip))) (.ops 8 [mvF 37 7, ⟨some 38, none, .bin .sub .no (.t 37) (.c (.int .i64 1))⟩, mvF 7 38])))))) (.seq (.ops 11 [⟨some 4, none, .mv (.c (.int .i64 65533)) false⟩, ⟨some 5, none, .mv (.c (.int .i64 1)) false⟩]) .ret))))⟩
theorem ok_c_Z5m : chkFn Tryz.prog 40 c_Z5m = true := chkFn_of Tryz.func40 (by kernel_rfl)
def c_Z5q : Ev.Fn := ⟨17, [.tmp 2], false, false, (.seq (.ops 0 [⟨some 2, none, .mv (.c (.bool false)) false⟩]) (.seq (.ops 1 [mvF 3 0, ⟨some 4, none, .bin .geq .no (.t 3) (.c (.int .i64 0))⟩, mvF 5 4, ⟨some 6, (some (5, true)), .mv (.t 0) false⟩, ⟨some 7, (some (5, true)), .bin .lss .no (.t 6) (.c (.int .i64 1114112))⟩, ⟨some 8, none, .pick (.t 5) (.t 7) (.c (.bool false))⟩, mvF 9 8, ⟨some 10, (some (9, true)), .mv (.t 0) false⟩, ⟨some 11, (some (9, true)), .bin .lss .no (.t 10) (.c (.int .i64 55296))⟩, ⟨some 12, (some (9, true)), .mv (.t 11) false⟩, ⟨some 13, (some (12, false)), .mv (.t 0) false⟩, ⟨some 14, (some (12, false)), .bin .gtr .no (.t 13) (.c (.int .i64 57343))⟩, ⟨some 15, (some (9, true)), .pick (.t 12) (.c (.bool true)) (.t 14)⟩, ⟨some 16, none, .pick (.t 9) (.t 15) (.c (.bool false))⟩, mvF 2 16]) .ret))⟩
theorem ok_c_Z5q : chkFn Tryz.prog 39 c_Z5q = true := chkFn_of Tryz.func39 (by kernel_rfl)
def c_Z62 : Ev.Fn := ⟨192, [.cell 4 true 6], false, false, (.seq (.ops 0 [⟨some 4, none, .alloc [(.int .i64 0), (.int .i64 0), (.int .i64 0), (.str []), (.str []), (.bool false)]⟩]) (.seq (.seq (.ops 1 [mvF 15 1, ⟨some 16, none, .bin .lss .no (.t 15) (.c (.int .i64 0))⟩]) (.cond (.t 16) (.ops 2 [⟨some 1, none, .mv (.c (.int .i64 0)) false⟩]) .skip)) (.seq (.seq (.ops 3 [mvF 17 1, mvF 18 0, ⟨some 19, none, .len (.t 18)⟩, ⟨some 20, none, .bin .gtr .no (.t 17) (.t 19)⟩]) (.cond (.t 20) (.ops 4 [mvF 21 0, ⟨some 22, none, .len (.t 21)⟩, mvF 1 22]) .skip)) (.seq (.ops 5 [mvF 23 0, mvF 24 1, ⟨some 25, none, .call 54 [(.t 23), (.t 24)]⟩, mvF 5 25]) (.seq (.seq (.ops 6 [mvF 26 5, mvF 27 0, ⟨some 28, none, .len (.t 27)⟩, ⟨some 29, none, .bin .geq .no (.t 26) (.t 28)⟩]) (.cond (.t 29) (.seq (.ops 7 [mvF 30 0, ⟨some 31, none, .len (.t 30)⟩, mvT 32 0, ⟨some 33, none, .len (.t 32)⟩, ⟨some 34, none, .build [(.int .i64 0), (.int .i64 0), (.int .i64 0), (.str []), (.str []), (.bool false)] [(0, 1, (.c (.int .i64 0))), (1, 1, (.t 31)), (2, 1, (.t 33))]⟩, ⟨none, none, .store 6 (.t 4) (.t 34) false⟩]) .ret) .skip)) (.seq (.ops 8 [mvF 35 0, mvF 36 5, ⟨some 37, none, .iaddr 1 (.t 35) (.t 36)⟩, ⟨some 38, none, .load false 1 (.t 37)⟩, mvF 6 38]) (.seq (.seq (.ops 9 [mvF 39 6, ⟨some 40, none, .call 55 [.t 39]⟩]) (.cond (.t 40) (.seq (.ops 10 [mvF 41 5, mvF 7 41]) (.seq (.block 0 (.loop [0, 4, 5, 7] [4, 5, 7] [] (.seq (.seq (.ops 11 [mvF 42 0, mvF 43 7, ⟨some 44, none, .call 56 [(.t 42), (.t 43)]⟩]) (.cond (.t 44) .skip (.exit 0))) (.block 1 (.ops 12 [mvF 45 7, ⟨some 46, none, .bin .add .no (.t 45) (.c (.int .i64 1))⟩, mvF 7 46]))))) (.seq (.ops 13 [mvF 47 5, mvF 48 7, ⟨some 49, none, .build [(.int .i64 0), (.int .i64 0), (.int .i64 0), (.str []), (.str []), (.bool false)] [(0, 1, (.c (.int .i64 13))), (1, 1, (.t 47)), (2, 1, (.t 48))]⟩, ⟨none, none, .store 6 (.t 4) (.t 49) false⟩]) .ret))) .skip)) (.seq (.seq (.ops 14 [mvF 50 6, ⟨some 51, none, .bin .eql .no (.t 50) (.c (.int .i64 34))⟩, mvF 52 51, ⟨some 53, (some (52, false)), .mv (.t 6) false⟩, ⟨some 54, (some (52, false)), .bin .eql .no (.t 53) (.c (.int .i64 39))⟩, ⟨some 55, none, .pick (.t 52) (.c (.bool true)) (.t 54)⟩]) (.cond (.t 55) (.seq (.ops 15 [mvT 56 0, mvF 57 5, ⟨some 58, none, .call 57 [(.t 56), (.t 57)]⟩, ⟨none, none, .store 6 (.t 4) (.t 58) false⟩]) .ret) .skip)) (.seq (.seq (.ops 16 [mvF 59 0, mvF 60 5, ⟨some 61, none, .call 58 [(.t 59), (.t 60)]⟩]) (.cond (.t 61) (.seq (.ops 17 [mvT 62 0, mvF 63 5, ⟨some 64, none, .call 59 [(.t 62), (.t 63)]⟩, ⟨none, none, .store 6 (.t 4) (.t 64) false⟩]) .ret) .skip)) (.seq (.seq (.ops 18 [mvF 65 6, ⟨some 66, none, .bin .eql .no (.t 65) (.c (.int .i64 45))⟩, mvF 67 66, ⟨some 68, (some (67, true)), .mv (.t 0) false⟩, ⟨some 69, (some (67, true)), .mv (.t 5) false⟩, ⟨some 70, (some (67, true)), .bin .add .no (.t 69) (.c (.int .i64 1))⟩, ⟨some 71, (some (67, true)), .call 60 [(.t 68), (.t 70), (.c (.int .i64 45))]⟩, ⟨some 72, none, .pick (.t 67) (.t 71) (.c (.bool false))⟩, mvF 73 72, ⟨some 74, (some (73, true)), .mv (.t 0) false⟩, ⟨some 75, (some (73, true)), .mv (.t 5) false⟩, ⟨some 76, (some (73, true)), .bin .add .no (.t 75) (.c (.int .i64 2))⟩, ⟨some 77, (some (73, true)), .call 60 [(.t 74), (.t 76), (.c (.int .i64 62))]⟩, ⟨some 78, none, .pick (.t 73) (.t 77) (.c (.bool false))⟩]) (.cond (.t 78) (.seq (.ops 19 [mvF 79 5, mvF 80 5, ⟨some 81, none, .bin .add .no (.t 80) (.c (.int .i64 3))⟩, ⟨some 82, none, .build [(.int .i64 0), (.int .i64 0), (.int .i64 0), (.str []), (.str []), (.bool false)] [(0, 1, (.c (.int .i64 15))), (1, 1, (.t 79)), (2, 1, (.t 81))]⟩, ⟨none, none, .store 6 (.t 4) (.t 82) false⟩]) .ret) .skip)) (.seq (.seq (.ops 20 [mvF 83 0, mvF 84 5, ⟨some 85, none, .call 61 [(.t 83), (.t 84)]⟩]) (.cond (.t 85) (.seq (.ops 21 [mvT 86 0, mvF 87 5, ⟨some 88, none, .call 62 [(.t 86), (.t 87)]⟩, ⟨none, none, .store 6 (.t 4) (.t 88) false⟩]) .ret) .skip)) (.seq (.seq (.ops 22 [mvF 89 6, ⟨some 90, none, .bin .eql .no (.t 89) (.c (.int .i64 60))⟩, mvF 91 90, ⟨some 92, (some (91, true)), .mv (.t 0) false⟩, ⟨some 93, (some (91, true)), .mv (.t 5) false⟩, ⟨some 94, (some (91, true)), .bin .add .no (.t 93) (.c (.int .i64 1))⟩, ⟨some 95, (some (91, true)), .call 60 [(.t 92), (.t 94), (.c (.int .i64 33))]⟩, ⟨some 96, none, .pick (.t 91) (.t 95) (.c (.bool false))⟩, mvF 97 96, ⟨some 98, (some (97, true)), .mv (.t 0) false⟩, ⟨some 99, (some (97, true)), .mv (.t 5) false⟩, ⟨some 100, (some (97, true)), .bin .add .no (.t 99) (.c (.int .i64 2))⟩, ⟨some 101, (some (97, true)), .call 60 [(.t 98), (.t 100), (.c (.int .i64 45))]⟩, ⟨some 102, none, .pick (.t 97) (.t 101) (.c (.bool false))⟩, mvF 103 102, ⟨some 104, (some (103, true)), .mv (.t 0) false⟩, ⟨some 105, (some (103, true)), .mv (.t 5) false⟩, ⟨some 106, (some (103, true)), .bin .add .no (.t 105) (.c (.int .i64 3))⟩, ⟨some 107, (some (103, true)), .call 60 [(.t 104), (.t 106), (.c (.int .i64 45))]⟩, ⟨some 108, none, .pick (.t 103) (.t 107) (.c (.bool false))⟩]) (.cond (.t 108) (.seq (.ops 23 [mvF 109 5, mvF 110 5, ⟨some 111, none, .bin .add .no (.t 110) (.c (.int .i64 4))⟩, ⟨some 112, none, .build [(.int .i64 0), (.int .i64 0), (.int .i64 0), (.str []), (.str []), (.bool false)] [(0, 1, (.c (.int .i64 14))), (1, 1, (.t 109)), (2, 1, (.t 111))]⟩, ⟨none, none, .store 6 (.t 4) (.t 112) false⟩]) .ret) .skip)) (.seq (.seq (.ops 24 [mvF 113 6, ⟨some 114, none, .bin .eql .no (.t 113) (.c (.int .i64 64))⟩, mvF 115 114, ⟨some 116, (some (115, true)), .mv (.t 0) false⟩, ⟨some 117, (some (115, true)), .mv (.t 5) false⟩, ⟨some 118, (some (115, true)), .bin .add .no (.t 117) (.c (.int .i64 1))⟩, ⟨some 119, (some (115, true)), .call 61 [(.t 116), (.t 118)]⟩, ⟨some 120, none, .pick (.t 115) (.t 119) (.c (.bool false))⟩]) (.cond (.t 120) (.seq (.ops 25 [mvT 122 0, mvF 123 5, ⟨some 124, none, .bin .add .no (.t 123) (.c (.int .i64 1))⟩, ⟨some 125, none, .call 63 [(.t 122), (.t 124)]⟩, mvF 121 125, ⟨some 126, none, .extr (.t 121) 0⟩, ⟨some 127, none, .extr (.t 121) 1⟩, mvF 8 126, mvF 9 127]) (.seq (.ops 26 [mvF 128 5, mvF 129 9, mvF 130 8, ⟨some 131, none, .build [(.int .i64 0), (.int .i64 0), (.int .i64 0), (.str []), (.str []), (.bool false)] [(0, 1, (.c (.int .i64 3))), (1, 1, (.t 128)), (2, 1, (.t 129)), (3, 1, (.t 130))]⟩, ⟨none, none, .store 6 (.t 4) (.t 131) false⟩]) .ret)) .skip)) (.seq (.seq (.ops 27 [mvF 132 6, ⟨some 133, none, .bin .eql .no (.t 132) (.c (.int .i64 35))⟩, mvF 134 133, ⟨some 135, (some (134, true)), .mv (.t 0) false⟩, ⟨some 136, (some (134, true)), .mv (.t 5) false⟩, ⟨some 137, (some (134, true)), .bin .add .no (.t 136) (.c (.int .i64 1))⟩, ⟨some 138, (some (134, true)), .call 64 [(.t 135), (.t 137)]⟩, ⟨some 139, (some (134, true)), .mv (.t 138) false⟩, ⟨some 140, (some (139, false)), .mv (.t 0) false⟩, ⟨some 141, (some (139, false)), .mv (.t 5) false⟩, ⟨some 142, (some (139, false)), .bin .add .no (.t 141) (.c (.int .i64 1))⟩, ⟨some 143, (some (139, false)), .call 65 [(.t 140), (.t 142)]⟩, ⟨some 144, (some (134, true)), .pick (.t 139) (.c (.bool true)) (.t 143)⟩, ⟨some 145, none, .pick (.t 134) (.t 144) (.c (.bool false))⟩]) (.cond (.t 145) (.seq (.ops 28 [mvF 147 0, mvF 148 5, ⟨some 149, none, .bin .add .no (.t 148) (.c (.int .i64 1))⟩, ⟨some 150, none, .call 63 [(.t 147), (.t 149)]⟩, mvF 146 150, ⟨some 151, none, .extr (.t 146) 0⟩, ⟨some 152, none, .extr (.t 146) 1⟩, mvF 10 151, mvF 11 152]) (.seq (.ops 29 [mvF 153 5, mvF 154 11, mvF 155 10, mvT 156 0, mvF 157 5, ⟨some 158, none, .bin .add .no (.t 157) (.c (.int .i64 1))⟩, ⟨some 159, none, .call 61 [(.t 156), (.t 158)]⟩, ⟨some 160, none, .build [(.int .i64 0), (.int .i64 0), (.int .i64 0), (.str []), (.str []), (.bool false)] [(0, 1, (.c (.int .i64 4))), (1, 1, (.t 153)), (2, 1, (.t 154)), (3, 1, (.t 155)), (5, 1, (.t 159))]⟩, ⟨none, none, .store 6 (.t 4) (.t 160) false⟩]) .ret)) .skip)) (.seq (.ops 30 [⟨some 161, none, .buildSl false 1 9 (.int .i64 0) [(0, (.c (.int .i64 21))), (1, (.c (.int .i64 22))), (2, (.c (.int .i64 19))), (3, (.c (.int .i64 20))), (4, (.c (.int .i64 23))), (5, (.c (.int .i64 24))), (6, (.c (.int .i64 18))), (7, (.c (.int .i64 16))), (8, (.c (.int .i64 17)))] false⟩, ⟨some 12, none, .mv (.c (.str [40, 41, 91, 93, 123, 125, 44, 58, 59])) false⟩, mvT 13 161]) (.seq (.seq (.ops 31 [⟨some 14, none, .mv (.c (.int .i64 0)) false⟩]) (.block 2 (.loop [0, 4, 5, 6, 12, 13, 14] [0, 4, 5] [] (.seq (.seq (.ops 32 [mvF 162 14, mvF 163 12, ⟨some 164, none, .lenS (.t 163)⟩, ⟨some 165, none, .bin .lss .no (.t 162) (.t 164)⟩]) (.cond (.t 165) .skip (.exit 2))) (.seq (.block 3 (.seq (.ops 34 [mvF 168 12, mvF 169 14, ⟨some 170, none, .idx (.t 168) (.t 169)⟩, ⟨some 171, none, .conv (.toInt .i64) (.t 170)⟩, mvF 172 6, ⟨some 173, none, .bin .eql .no (.t 171) (.t 172)⟩]) (.cond (.t 173) (.seq (.ops 35 [mvT 174 13, mvF 175 14, ⟨some 176, none, .iaddr 1 (.t 174) (.t 175)⟩, ⟨some 177, none, .load false 1 (.t 176)⟩, mvF 178 5, mvF 179 5, ⟨some 180, none, .bin .add .no (.t 179) (.c (.int .i64 1))⟩, ⟨some 181, none, .build [(.int .i64 0), (.int .i64 0), (.int .i64 0), (.str []), (.str []), (.bool false)] [(0, 1, (.t 177)), (1, 1, (.t 178)), (2, 1, (.t 180))]⟩, ⟨none, none, .store 6 (.t 4) (.t 181) false⟩]) .ret) .skip))) (.ops 33 [mvF 166 14, ⟨some 167, none, .bin .add .no (.t 166) (.c (.int .i64 1))⟩, mvF 14 167])))))) (.seq (.ops 36 [mvF 182 5, mvF 183 5, ⟨some 184, none, .bin .add .no (.t 183) (.c (.int .i64 1))⟩, mvT 185 0, mvF 186 5, mvF 187 5, ⟨some 188, none, .bin .add .no (.t 187) (.c (.int .i64 1))⟩, ⟨some 189, none, .cut 1 (.t 185) (some (.t 186)) (some (.t 188)) none⟩, ⟨some 190, none, .call 66 [.t 189]⟩, ⟨some 191, none, .build [(.int .i64 0), (.int .i64 0), (.int .i64 0), (.str []), (.str []), (.bool false)] [(0, 1, (.c (.int .i64 9))), (1, 1, (.t 182)), (2, 1, (.t 184)), (3, 1, (.t 190))]⟩, ⟨none, none, .store 6 (.t 4) (.t 191) false⟩]) .ret)))))))))))))))))⟩
theorem ok_c_Z62 : chkFn Tryz.prog 38 c_Z62 = true := chkFn_of Tryz.func38 (by kernel_rfl)
def c_Z6f : Ev.Fn := ⟨6, [.tmp 2], false, false, (.seq (.ops 0 [⟨some 2, none, .mv (.c (.bool false)) false⟩]) (.seq (.ops 1 [mvF 3 0, ⟨some 4, none, .conv .strBytes (.t 3)⟩, ⟨some 5, none, .call 51 [.t 4]⟩, mvF 2 5]) .ret))⟩
theorem ok_c_Z6f : chkFn Tryz.prog 31 c_Z6f = true := chkFn_of Tryz.func31 (by kernel_rfl)
def c_Zz : Ev.Fn := ⟨13, [.tmp 4], false, false, (.seq (.ops 0 [⟨some 4, none, .mv (.c (.int .i64 0)) false⟩]) (.seq (.block 0 (.loop [0, 1] [1, 4] [] (.seq (.seq (.ops 1 [mvF 5 0, mvF 6 1, ⟨some 7, none, .call 36 [(.t 5), (.t 6)]⟩, ⟨some 8, none, .field false 0 1 (.t 7)⟩, ⟨some 9, none, .bin .eql .no (.t 8) (.c (.int .i64 13))⟩]) (.cond (.t 9) .skip (.exit 0))) (.block 1 (.ops 2 [mvF 10 1, ⟨some 11, none, .bin .add .no (.t 10) (.c (.int .i64 1))⟩, mvF 1 11]))))) (.seq (.ops 3 [mvF 12 1, mvF 4 12]) .ret)))⟩
theorem ok_c_Zz : chkFn Tryz.prog 35 c_Zz = true := chkFn_of Tryz.func35 (by kernel_rfl)
def c_Z11 : Ev.Fn := ⟨88, [.cell 8 true 1, .tmp 9], false, false, (.seq (.ops 0 [⟨some 8, none, .alloc [.nils]⟩, ⟨some 9, none, .mv (.c (.int .i64 0)) false⟩]) (.seq (.ops 1 [⟨some 17, none, .build [.nils] []⟩, ⟨some 10, none, .alloc [.nils]⟩, ⟨none, none, .store 1 (.t 10) (.t 17) false⟩, ⟨some 11, none, .mv (.c (.int .i64 0)) false⟩]) (.seq (.block 0 (.loop [0, 1, 2, 3, 8, 10, 11] [1, 8, 9, 10] [] (.seq (.seq (.ops 2 [mvF 18 0, ⟨some 19, none, .nilc (.t 18)⟩, ⟨some 20, none, .faddr 5 (.t 19)⟩, ⟨some 21, none, .load false 1 (.t 20)⟩, ⟨some 22, none, .bin .eql .no (.t 21) (.c (.int .i64 0))⟩]) (.cond (.t 22) .skip (.exit 0))) (.block 1 (.seq (.ops 3 [mvF 24 0, mvF 25 1, mvF 26 2, mvF 27 3, ⟨some 28, none, .call 52 [(.t 24), (.t 25), (.t 26), (.t 27)]⟩, mvF 23 28, ⟨some 29, none, .extr (.t 23) 0⟩, ⟨some 30, none, .extr (.t 23) 1⟩, ⟨some 31, none, .extr (.t 23) 2⟩, mvF 12 29, mvF 13 30, mvF 14 31]) (.seq (.ops 4 [⟨some 32, none, .faddr 0 (.t 10)⟩, ⟨some 33, none, .loadT (.t 32)⟩, mvF 34 11, mvF 35 12, ⟨some 36, none, .build [(.int .i64 0), .nils] [(0, 1, (.t 34)), (1, 1, (.t 35))]⟩, ⟨some 37, none, .buildSl true 2 1 (.agg [(.int .i64 0), .nils]) [(0, (.t 36))] false⟩, ⟨some 38, none, .app false true 2 32 (.t 33) (.t 37) true⟩, ⟨some 39, none, .faddr 0 (.t 10)⟩, ⟨none, none, .store 1 (.t 39) (.t 38) true⟩]) (.seq (.ops 5 [mvF 40 0, mvF 41 13, ⟨some 42, none, .call 35 [(.t 40), (.t 41)]⟩, mvF 15 42]) (.seq (.ops 6 [mvF 43 0, mvF 44 15, ⟨some 45, none, .call 36 [(.t 43), (.t 44)]⟩, ⟨some 46, none, .field false 0 1 (.t 45)⟩, mvF 16 46]) (.seq (.seq (.ops 7 [mvF 47 0, ⟨some 48, none, .nilc (.t 47)⟩, ⟨some 49, none, .faddr 5 (.t 48)⟩, ⟨some 50, none, .load false 1 (.t 49)⟩, ⟨some 51, none, .bin .neq .no (.t 50) (.c (.int .i64 0))⟩, mvF 52 51, ⟨some 53, (some (52, false)), .mv (.t 16) false⟩, ⟨some 54, (some (52, false)), .mv (.t 2) false⟩, ⟨some 55, (some (52, false)), .bin .eql .no (.t 53) (.t 54)⟩, ⟨some 56, none, .pick (.t 52) (.c (.bool true)) (.t 55)⟩, mvF 57 56, ⟨some 58, (some (57, false)), .mv (.t 16) false⟩, ⟨some 59, (some (57, false)), .bin .eql .no (.t 58) (.c (.int .i64 18))⟩, ⟨some 60, none, .pick (.t 57) (.c (.bool true)) (.t 59)⟩]) (.cond (.t 60) (.seq (.ops 8 [⟨some 61, none, .load true 1 (.t 10)⟩, mvF 62 15, ⟨none, none, .store 1 (.t 8) (.t 61) false⟩, mvF 9 62]) .ret) .skip)) (.seq (.ops 9 [mvF 63 0, mvF 64 15, ⟨some 65, none, .call 53 [(.t 63), (.t 64)]⟩, mvF 11 65]) (.seq (.ops 10 [mvF 66 14, mvF 67 66, ⟨some 68, (some (67, false)), .mv (.t 11) false⟩, ⟨some 69, (some (67, false)), .bin .eql .no (.t 68) (.c (.int .i64 0))⟩, ⟨some 70, (some (67, false)), .mv (.t 69) false⟩, ⟨some 71, (some (70, true)), .mv (.t 15) false⟩, ⟨some 72, (some (70, true)), .mv (.t 13) false⟩, ⟨some 73, (some (70, true)), .bin .eql .no (.t 71) (.t 72)⟩, ⟨some 74, (some (67, false)), .pick (.t 70) (.t 73) (.c (.bool false))⟩, ⟨some 75, none, .pick (.t 67) (.c (.bool true)) (.t 74)⟩]) (.cond (.t 75) (.ops 11 [mvF 76 0, mvF 77 15, ⟨some 78, none, .call 37 [(.t 76), (.c (.int .i64 10)), (.t 77)]⟩]) (.seq (.ops 12 [mvF 79 11, ⟨some 80, none, .bin .eql .no (.t 79) (.c (.int .i64 0))⟩]) (.cond (.t 80) (.seq (.ops 13 [⟨some 11, none, .mv (.c (.int .i64 1)) false⟩]) (.ops 14 [mvF 81 15, mvF 1 81])) (.ops 15 [mvF 82 0, mvF 83 15, ⟨some 84, none, .bin .add .no (.t 83) (.c (.int .i64 1))⟩, ⟨some 85, none, .call 35 [(.t 82), (.t 84)]⟩, mvF 1 85]))))))))))))))) (.seq (.ops 16 [⟨some 86, none, .load true 1 (.t 10)⟩, mvF 87 1, ⟨none, none, .store 1 (.t 8) (.t 86) false⟩, mvF 9 87]) .ret))))⟩
theorem ok_c_Z11 : chkFn Tryz.prog 34 c_Z11 = true := chkFn_of Tryz.func34 (by kernel_rfl)
def c_Z19 : Ev.Fn := ⟨45, [.cell 4 true 6], false, false, (.seq (.ops 0 [⟨some 4, none, .alloc [(.int .i64 0), (.int .i64 0), (.int .i64 0), (.str []), (.str []), (.bool false)]⟩]) (.seq (.seq (.ops 1 [mvF 6 1, mvF 7 0, ⟨some 8, none, .nilc (.t 7)⟩, ⟨some 9, none, .faddr 0 (.t 8)⟩, ⟨some 10, none, .load false 1 (.t 9)⟩, ⟨some 11, none, .len (.t 10)⟩, ⟨some 12, none, .bin .lss .no (.t 6) (.t 11)⟩]) (.cond (.t 12) (.seq (.ops 2 [mvF 13 0, ⟨some 14, none, .nilc (.t 13)⟩, ⟨some 15, none, .faddr 0 (.t 14)⟩, ⟨some 16, none, .load false 1 (.t 15)⟩, mvF 17 1, ⟨some 18, none, .iaddr 6 (.t 16) (.t 17)⟩, ⟨some 19, none, .load true 6 (.t 18)⟩, ⟨none, none, .store 6 (.t 4) (.t 19) false⟩]) .ret) .skip)) (.seq (.ops 3 [⟨some 20, none, .build [(.int .i64 0), (.int .i64 0), (.int .i64 0), (.str []), (.str []), (.bool false)] []⟩, ⟨some 5, none, .alloc [(.int .i64 0), (.int .i64 0), (.int .i64 0), (.str []), (.str []), (.bool false)]⟩, ⟨none, none, .store 6 (.t 5) (.t 20) false⟩]) (.seq (.seq (.ops 4 [mvF 21 0, ⟨some 22, none, .nilc (.t 21)⟩, ⟨some 23, none, .faddr 0 (.t 22)⟩, ⟨some 24, none, .load false 1 (.t 23)⟩, ⟨some 25, none, .len (.t 24)⟩, ⟨some 26, none, .bin .gtr .no (.t 25) (.c (.int .i64 0))⟩]) (.cond (.t 26) (.drw 5 [⟨mvF 27 0, 0, []⟩, ⟨⟨some 28, none, .nilc (.t 27)⟩, 1, []⟩, ⟨⟨some 29, none, .faddr 0 (.t 28)⟩, 2, []⟩, ⟨⟨some 30, none, .load false 1 (.t 29)⟩, 3, []⟩, ⟨mvF 31 0, 4, []⟩, ⟨⟨some 32, none, .nilc (.t 31)⟩, 5, []⟩, ⟨⟨some 33, none, .faddr 0 (.t 32)⟩, 6, []⟩, ⟨⟨some 34, none, .load false 1 (.t 33)⟩, 7, []⟩, ⟨⟨some 35, none, .len (.t 34)⟩, 8, []⟩, ⟨⟨some 36, none, .bin .sub .no (.t 35) (.c (.int .i64 1))⟩, 9, []⟩, ⟨⟨some 37, none, .iaddr 6 (.t 30) (.t 36)⟩, 10, []⟩, ⟨⟨some 38, none, .faddr 2 (.t 37)⟩, 11, []⟩, ⟨⟨some 39, none, .load false 1 (.t 38)⟩, 12, []⟩, ⟨⟨some 40, none, .faddr 1 (.t 5)⟩, 13, []⟩, ⟨⟨none, none, .store 1 (.t 40) (.t 39) false⟩, 14, []⟩]) .skip)) (.seq (.ops 6 [⟨some 41, none, .faddr 1 (.t 5)⟩, ⟨some 42, none, .load false 1 (.t 41)⟩, ⟨some 43, none, .faddr 2 (.t 5)⟩, ⟨none, none, .store 1 (.t 43) (.t 42) false⟩]) (.seq (.ops 7 [⟨some 44, none, .load true 6 (.t 5)⟩, ⟨none, none, .store 6 (.t 4) (.t 44) false⟩]) .ret))))))⟩
theorem ok_c_Z19 : chkFn Tryz.prog 36 c_Z19 = true := chkFn_of Tryz.func36 (by kernel_rfl)
def c_Z3p : Ev.Fn := ⟨6, [.tmp 2], false, false, (.seq (.ops 0 [⟨some 2, none, .mv (.c (.bool false)) false⟩]) (.seq (.ops 1 [mvF 3 0, ⟨some 4, none, .conv .strBytes (.t 3)⟩, ⟨some 5, none, .call 70 [.t 4]⟩, mvF 2 5]) .ret))⟩
theorem ok_c_Z3p : chkFn Tryz.prog 41 c_Z3p = true := chkFn_of Tryz.func41 (by kernel_rfl)
def c_Z3l : Ev.Fn := ⟨9, [.tmp 2], false, false, (.seq (.ops 0 [⟨some 2, none, .mv (.c (.bool false)) false⟩]) (.seq (.ops 1 [mvF 3 0, ⟨some 4, none, .bin .neq .no (.t 3) (.c (.str []))⟩, mvF 5 4, ⟨some 6, (some (5, true)), .mv (.t 0) false⟩, ⟨some 7, (some (5, true)), .call 41 [.t 6]⟩, ⟨some 8, none, .pick (.t 5) (.t 7) (.c (.bool false))⟩, mvF 2 8]) .ret))⟩
theorem ok_c_Z3l : chkFn Tryz.prog 42 c_Z3l = true := chkFn_of Tryz.func42 (by kernel_rfl)
def c_Z41 : Ev.Fn := ⟨9, [.tmp 4], false, false, (.seq (.ops 0 [⟨some 4, none, .mv (.c (.bool false)) false⟩]) (.seq (.ops 1 [mvT 5 0, mvF 6 1, ⟨some 7, none, .call 71 [(.t 5), (.t 6)]⟩, ⟨some 8, none, .bin .geq .no (.t 7) (.c (.int .i64 0))⟩, mvF 4 8]) .ret))⟩
theorem ok_c_Z41 : chkFn Tryz.prog 43 c_Z41 = true := chkFn_of Tryz.func43 (by kernel_rfl)
def c_Z1i : Ev.Fn := ⟨67, [.tmp 6], false, false, (.seq (.ops 0 [⟨some 3, none, .box (.t 0)⟩, ⟨some 6, none, .mv (.c (.bool false)) false⟩]) (.seq (.seq (.ops 1 [mvF 12 1, ⟨some 13, none, .len (.t 12)⟩, ⟨some 14, none, .mv (.c (.int .i64 0)) false⟩]) (.block 0 (.loop [1, 2, 3, 12, 13, 14] [1, 6] [] (.seq (.ops 2 [⟨some 15, none, .bin .lss .no (.t 14) (.t 13)⟩]) (.seq (.cond (.t 15) .skip (.exit 0)) (.seq (.block 1 (.seq (.ops 3 [⟨some 16, none, .iaddr 1 (.t 12) (.t 14)⟩, ⟨some 17, none, .load true 1 (.t 16)⟩, ⟨some 8, none, .alloc [.nils]⟩, ⟨none, none, .store 1 (.t 8) (.t 17) false⟩]) (.seq (.seq (.ops 4 [⟨some 18, none, .faddr 0 (.t 8)⟩, ⟨some 19, none, .load false 1 (.t 18)⟩, ⟨some 20, none, .len (.t 19)⟩, ⟨some 21, none, .bin .eql .no (.t 20) (.c (.int .i64 0))⟩]) (.cond (.t 21) (.seq (.ops 5 [⟨some 6, none, .mv (.c (.bool false)) false⟩]) .ret) .skip)) (.seq (.ops 6 [⟨some 22, none, .faddr 0 (.t 8)⟩, ⟨some 23, none, .load false 1 (.t 22)⟩, ⟨some 24, none, .len (.t 23)⟩, ⟨some 25, none, .mv (.c (.int .i64 0)) false⟩]) (.block 2 (.loop [1, 2, 3, 8, 12, 13, 14, 23, 24, 25] [1, 2, 3, 6, 12, 13, 14] [] (.seq (.ops 7 [⟨some 26, none, .bin .lss .no (.t 25) (.t 24)⟩]) (.seq (.cond (.t 26) .skip (.exit 2)) (.seq (.block 3 (.seq (.ops 8 [mvF 27 25, ⟨some 28, none, .iaddr 2 (.t 23) (.t 25)⟩, ⟨some 29, none, .load true 2 (.t 28)⟩, ⟨some 10, none, .alloc [(.int .i64 0), .nils]⟩, mvF 9 27, ⟨none, none, .store 2 (.t 10) (.t 29) false⟩]) (.seq (.ops 9 [⟨some 30, none, .faddr 0 (.t 10)⟩, ⟨some 31, none, .load false 1 (.t 30)⟩, ⟨some 32, none, .bin .eql .no (.t 31) (.c (.int .i64 0))⟩, mvF 11 32]) (.seq (.ops 10 [⟨some 33, none, .faddr 0 (.t 10)⟩, ⟨some 34, none, .load false 1 (.t 33)⟩, ⟨some 35, none, .bin .lss .no (.t 34) (.c (.int .i64 0))⟩, mvF 36 35, ⟨some 37, (some (36, false)), .faddr 0 (.t 10)⟩, ⟨some 38, (some (36, false)), .load false 1 (.t 37)⟩, ⟨some 39, (some (36, false)), .bin .gtr .no (.t 38) (.c (.int .i64 4))⟩, ⟨some 40, none, .pick (.t 36) (.c (.bool true)) (.t 39)⟩, mvF 41 40, ⟨some 42, (some (41, false)), .mv (.t 11) false⟩, ⟨some 43, (some (41, false)), .mv (.t 9) false⟩, ⟨some 44, (some (41, false)), .bin .eql .no (.t 43) (.c (.int .i64 0))⟩, ⟨some 45, (some (41, false)), .bin .neq .bool (.t 42) (.t 44)⟩, ⟨some 46, none, .pick (.t 41) (.c (.bool true)) (.t 45)⟩, mvF 47 46, ⟨some 48, (some (47, false)), .load true 4 (.t 3)⟩, ⟨some 49, (some (47, false)), .load true 2 (.t 10)⟩, ⟨some 50, (some (47, false)), .mv (.t 2) false⟩, ⟨some 51, (some (47, false)), .mv (.t 50) false⟩, ⟨some 52, (some (51, true)), .mv (.t 9) false⟩, ⟨some 53, (some (51, true)), .faddr 0 (.t 8)⟩, ⟨some 54, (some (51, true)), .load false 1 (.t 53)⟩, ⟨some 55, (some (51, true)), .len (.t 54)⟩, ⟨some 56, (some (51, true)), .bin .sub .no (.t 55) (.c (.int .i64 1))⟩, ⟨some 57, (some (51, true)), .bin .eql .no (.t 52) (.t 56)⟩, ⟨some 58, (some (47, false)), .pick (.t 51) (.t 57) (.c (.bool false))⟩, ⟨some 59, (some (47, false)), .call 73 [(.t 48), (.t 49), (.t 58)]⟩, ⟨some 60, (some (47, false)), .un .not (.t 59)⟩, ⟨some 61, none, .pick (.t 47) (.c (.bool true)) (.t 60)⟩]) (.cond (.t 61) (.seq (.ops 11 [⟨some 6, none, .mv (.c (.bool false)) false⟩]) .ret) .skip))))) (.ops 12 [⟨some 62, none, .bin .add .no (.t 25) (.c (.int .i64 1))⟩, mvF 25 62])))))))))) (.ops 13 [⟨some 63, none, .bin .add .no (.t 14) (.c (.int .i64 1))⟩, mvF 14 63]))))))) (.seq (.ops 14 [mvT 64 1, ⟨some 65, none, .len (.t 64)⟩, ⟨some 66, none, .bin .gtr .no (.t 65) (.c (.int .i64 0))⟩, mvF 6 66]) .ret)))⟩
theorem ok_c_Z1i : chkFn Tryz.prog 45 c_Z1i = true := chkFn_of Tryz.func45 (by kernel_rfl)
def c_Z2d : Ev.Fn := ⟨55, [.cell 4 true 5, .tmp 5], false, false, (.seq (.ops 0 [⟨some 3, none, .box (.t 1)⟩, ⟨some 4, none, .alloc [.nils, .nils, .nils, .nils, (.int .i64 0)]⟩, ⟨some 5, none, .mv (.c .nili) false⟩]) (.seq (.seq (.ops 1 [⟨some 11, none, .load true 4 (.t 3)⟩, ⟨some 12, none, .call 23 [.t 11]⟩, mvF 6 12]) (.seq (.ops 2 [mvF 13 6, ⟨some 14, none, .bin .neq .ifc (.t 13) (.c .nili)⟩]) (.cond (.t 14) (.seq (.ops 3 [⟨some 15, none, .build [.nils, .nils, .nils, .nils, (.int .i64 0)] []⟩, mvF 16 6, ⟨none, none, .store 5 (.t 4) (.t 15) false⟩, mvF 5 16]) .ret) .skip))) (.seq (.ops 4 [⟨some 17, none, .load true 4 (.t 3)⟩, ⟨some 18, none, .build [(.bool false), (.str []), .nils, .nils, .nils, .nils, .nils, .nils, (.int .i64 0)] [(0, 4, (.t 17))]⟩, ⟨some 19, none, .box (.t 18)⟩, mvF 7 19]) (.seq (.seq (.ops 5 [mvT 20 0, ⟨some 21, none, .len (.t 20)⟩, ⟨some 22, none, .mv (.c (.int .i64 0)) false⟩]) (.block 0 (.loop [3, 4, 7, 20, 21, 22] [4, 5, 7] [] (.seq (.ops 6 [⟨some 23, none, .bin .lss .no (.t 22) (.t 21)⟩]) (.seq (.cond (.t 23) .skip (.exit 0)) (.seq (.block 1 (.seq (.ops 7 [mvF 24 22, ⟨some 25, none, .iaddr 1 (.t 20) (.t 22)⟩, ⟨some 26, none, .load false 1 (.t 25)⟩, mvF 8 24, mvT 9 26]) (.seq (.seq (.ops 8 [mvF 27 9, ⟨some 28, none, .load true 4 (.t 3)⟩, ⟨some 29, none, .call 24 [(.t 27), (.t 28)]⟩, mvF 10 29]) (.seq (.ops 9 [mvF 30 10, ⟨some 31, none, .bin .neq .ifc (.t 30) (.c .nili)⟩]) (.cond (.t 31) (.seq (.ops 10 [⟨some 32, none, .build [.nils, .nils, .nils, .nils, (.int .i64 0)] []⟩, mvF 33 8, mvF 34 10, ⟨some 35, none, .call 25 [(.c (.int .i64 1)), (.t 33), (.t 34)]⟩, ⟨none, none, .store 5 (.t 4) (.t 32) false⟩, mvF 5 35]) .ret) .skip))) (.drw 11 [⟨mvF 36 7, 0, []⟩, ⟨mvF 37 7, 1, []⟩, ⟨⟨some 38, none, .nilc (.t 37)⟩, 2, []⟩, ⟨⟨some 39, none, .faddr 4 (.t 38)⟩, 3, []⟩, ⟨⟨some 40, none, .faddr 3 (.t 39)⟩, 4, []⟩, ⟨⟨some 41, none, .loadT (.t 40)⟩, 5, []⟩, ⟨mvF 42 7, 6, []⟩, ⟨mvT 43 9, 7, []⟩, ⟨⟨some 44, none, .call 74 [(.t 42), (.t 43)]⟩, 8, [5]⟩, ⟨⟨some 45, none, .buildSl false 1 1 .nils [(0, (.t 44))] false⟩, 9, []⟩, ⟨⟨some 46, none, .app false false 1 24 (.t 41) (.t 45) true⟩, 10, []⟩, ⟨⟨some 47, none, .nilc (.t 36)⟩, 11, []⟩, ⟨⟨some 48, none, .faddr 4 (.t 47)⟩, 12, []⟩, ⟨⟨some 49, none, .faddr 3 (.t 48)⟩, 13, []⟩, ⟨⟨none, none, .store 1 (.t 49) (.t 46) true⟩, 14, []⟩])))) (.ops 12 [⟨some 50, none, .bin .add .no (.t 22) (.c (.int .i64 1))⟩, mvF 22 50]))))))) (.seq (.ops 13 [mvF 51 7, ⟨some 52, none, .nilc (.t 51)⟩, ⟨some 53, none, .faddr 4 (.t 52)⟩, ⟨some 54, none, .load true 5 (.t 53)⟩, ⟨none, none, .store 5 (.t 4) (.t 54) false⟩, ⟨some 5, none, .mv (.c .nili) false⟩]) .ret)))))⟩
theorem ok_c_Z2d : chkFn Tryz.prog 46 c_Z2d = true := chkFn_of Tryz.func46 (by kernel_rfl)
def c_Z0_1 : Ev.Fn := ⟨21, [.tmp 7], false, false, (.seq (.ops 0 [⟨some 6, none, .box (.t 1)⟩, ⟨some 7, none, .mv (.c (.bool false)) false⟩]) (.seq (.ops 1 [⟨some 8, none, .load false 1 (.t 2)⟩, ⟨some 9, none, .load false 1 (.t 3)⟩, mvF 10 0, ⟨some 11, none, .load true 2 (.t 6)⟩, ⟨some 12, none, .call 50 [(.t 8), (.t 9), (.t 10), (.t 11)]⟩, mvF 13 12, ⟨some 14, (some (13, true)), .load false 1 (.t 2)⟩, ⟨some 15, (some (13, true)), .load false 1 (.t 4)⟩, ⟨some 16, (some (13, true)), .mv (.t 0) true⟩, ⟨some 17, (some (13, true)), .load true 2 (.t 6)⟩, ⟨some 18, (some (13, true)), .call 50 [(.t 14), (.t 15), (.t 16), (.t 17)]⟩, ⟨some 19, (some (13, true)), .un .not (.t 18)⟩, ⟨some 20, none, .pick (.t 13) (.t 19) (.c (.bool false))⟩, mvF 7 20]) .ret))⟩
theorem ok_c_Z0_1 : chkFn Tryz.prog 49 c_Z0_1 = true := chkFn_of Tryz.func49 (by kernel_rfl)
def c_Z37 : Ev.Fn := ⟨10, [.tmp 6], false, false, (.seq (.ops 0 [⟨some 3, none, .box (.t 0)⟩, ⟨some 4, none, .box (.t 1)⟩, ⟨some 5, none, .box (.t 2)⟩, ⟨some 6, none, .mv (.c .nils) false⟩]) (.seq (.ops 1 [⟨some 7, none, .load true 5 (.t 3)⟩, ⟨some 8, none, .mkfn 80 [] [(.t 3), (.t 4), (.t 5)]⟩, ⟨some 9, none, .call 79 [(.t 7), (.t 8)]⟩, mvT 6 9]) .ret))⟩
theorem ok_c_Z37 : chkFn Tryz.prog 48 c_Z37 = true := chkFn_of Tryz.func48 (by kernel_rfl)
def c_Z2 : Ev.Fn := ⟨73, [.cell 8 true 6, .tmp 9, .tmp 10], false, false, (.seq (.ops 0 [⟨some 7, none, .box (.t 3)⟩, ⟨some 8, none, .alloc [(.int .i64 0), (.int .i64 0), .nils, (.int .i64 0), (.str []), (.int .i64 0)]⟩, ⟨some 9, none, .mv (.c (.bool false)) false⟩, ⟨some 10, none, .mv (.c .nili) false⟩]) (.seq (.ops 1 [mvF 16 0, ⟨some 17, none, .nilc (.t 16)⟩, ⟨some 18, none, .faddr 5 (.t 17)⟩, ⟨some 19, none, .load true 5 (.t 18)⟩, mvF 20 1, mvF 21 2, ⟨some 22, none, .call 75 [(.t 19), (.t 20), (.t 21)]⟩, mvF 15 22, ⟨some 23, none, .extr (.t 15) 0⟩, ⟨some 24, none, .extr (.t 15) 1⟩, ⟨some 25, none, .extr (.t 15) 2⟩, ⟨some 11, none, .alloc [(.bool false), (.int .i64 0), .nils]⟩, ⟨none, none, .store 3 (.t 11) (.t 23) false⟩, mvF 12 24, mvF 10 25]) (.seq (.ops 2 [mvF 26 12, ⟨some 27, none, .faddr 5 (.t 8)⟩, ⟨none, none, .store 1 (.t 27) (.t 26) false⟩]) (.seq (.seq (.ops 3 [mvF 28 10, ⟨some 29, none, .bin .neq .ifc (.t 28) (.c .nili)⟩, mvF 30 29, ⟨some 31, (some (30, false)), .faddr 0 (.t 11)⟩, ⟨some 32, (some (30, false)), .load false 1 (.t 31)⟩, ⟨some 33, (some (30, false)), .un .not (.t 32)⟩, ⟨some 34, none, .pick (.t 30) (.c (.bool true)) (.t 33)⟩]) (.cond (.t 34) (.seq (.ops 4 [⟨some 35, none, .load true 6 (.t 8)⟩, mvF 36 10, ⟨none, none, .store 6 (.t 8) (.t 35) false⟩, ⟨some 9, none, .mv (.c (.bool false)) false⟩, mvF 10 36]) .ret) .skip)) (.seq (.ops 5 [⟨some 38, none, .faddr 2 (.t 11)⟩, ⟨some 39, none, .load false 1 (.t 38)⟩, ⟨some 40, none, .call 76 [.t 39]⟩, mvF 37 40, ⟨some 41, none, .extr (.t 37) 0⟩, ⟨some 42, none, .extr (.t 37) 1⟩, mvF 13 41, mvF 10 42]) (.seq (.seq (.ops 6 [mvF 43 10, ⟨some 44, none, .bin .neq .ifc (.t 43) (.c .nili)⟩]) (.cond (.t 44) (.seq (.ops 7 [⟨some 45, none, .load true 6 (.t 8)⟩, mvF 46 10, ⟨none, none, .store 6 (.t 8) (.t 45) false⟩, ⟨some 9, none, .mv (.c (.bool false)) false⟩, mvF 10 46]) .ret) .skip)) (.seq (.ops 8 [mvT 47 1, ⟨some 48, none, .faddr 1 (.t 11)⟩, ⟨some 49, none, .load false 1 (.t 48)⟩, ⟨some 50, none, .iaddr 3 (.t 47) (.t 49)⟩, ⟨some 51, none, .faddr 0 (.t 50)⟩, ⟨some 52, none, .load false 1 (.t 51)⟩, ⟨some 14, none, .alloc [(.str [])]⟩, ⟨none, none, .store 1 (.t 14) (.t 52) false⟩]) (.seq (.ops 9 [mvF 54 13, mvF 55 13, ⟨some 56, none, .len (.t 55)⟩, ⟨some 57, none, .bin .sub .no (.t 56) (.c (.int .i64 1))⟩, ⟨some 58, none, .mkfn 78 [] [(.t 7), (.t 14)]⟩, ⟨some 59, none, .call 77 [(.t 54), (.t 57), (.t 58)]⟩, mvF 53 59, ⟨some 60, none, .extr (.t 53) 0⟩, ⟨some 61, none, .extr (.t 53) 1⟩, ⟨some 62, none, .extr (.t 53) 2⟩, ⟨some 63, none, .faddr 2 (.t 8)⟩, ⟨none, none, .store 1 (.t 63) (.t 60) false⟩, ⟨some 64, none, .faddr 3 (.t 8)⟩, ⟨some 65, none, .faddr 0 (.t 64)⟩, ⟨none, none, .store 1 (.t 65) (.t 61) false⟩, mvF 10 62]) (.seq (.ops 10 [⟨some 66, none, .load false 1 (.t 14)⟩, ⟨some 67, none, .faddr 3 (.t 8)⟩, ⟨some 68, none, .faddr 1 (.t 67)⟩, ⟨none, none, .store 1 (.t 68) (.t 66) false⟩]) (.seq (.drw 11 [⟨⟨some 69, none, .load true 6 (.t 8)⟩, 0, []⟩, ⟨mvF 70 10, 1, []⟩, ⟨⟨some 71, none, .bin .eql .ifc (.t 70) (.c .nili)⟩, 2, []⟩, ⟨mvF 72 10, 3, []⟩, ⟨⟨none, none, .store 6 (.t 8) (.t 69) false⟩, 4, []⟩, ⟨mvF 9 71, 5, []⟩, ⟨mvF 10 72, 6, []⟩]) .ret))))))))))⟩
theorem ok_c_Z2 : chkFn Tryz.prog 47 c_Z2 = true := chkFn_of Tryz.func47 (by kernel_rfl)
def c_Z5t : Ev.Fn := ⟨16, [.tmp 2], false, false, (.seq (.ops 0 [⟨some 2, none, .mv (.c (.bool false)) false⟩]) (.seq (.ops 1 [mvF 4 0, ⟨some 5, none, .call 68 [.t 4]⟩, mvF 3 5]) (.seq (.drw 2 [⟨mvF 6 3, 0, []⟩, ⟨⟨some 7, none, .call 39 [.t 6]⟩, 1, []⟩, ⟨mvF 8 7, 2, []⟩, ⟨⟨some 9, (some (8, true)), .mv (.t 3) false⟩, 3, []⟩, ⟨⟨some 12, (some (8, true)), .mv (.t 0) true⟩, 6, []⟩, ⟨⟨some 13, (some (8, true)), .conv .bytesStrN (.t 12)⟩, 7, []⟩, ⟨⟨some 10, (some (8, true)), .call 96 [.t 9]⟩, 4, []⟩, ⟨⟨some 11, (some (8, true)), .conv .bytesStrN (.t 10)⟩, 5, []⟩, ⟨⟨some 14, (some (8, true)), .bin .eql .no (.t 11) (.t 13)⟩, 8, []⟩, ⟨⟨some 15, none, .pick (.t 8) (.t 14) (.c (.bool false))⟩, 9, []⟩, ⟨mvF 2 15, 10, []⟩]) .ret)))⟩
theorem ok_c_Z5t : chkFn Tryz.prog 67 c_Z5t = true := chkFn_of Tryz.func67 (by kernel_rfl)
def c_Z5s : Ev.Fn := ⟨33, [.tmp 2], false, false, (.seq (.ops 0 [⟨some 2, none, .mv (.c (.int .i64 0)) false⟩]) (.seq (.ops 1 [⟨some 6, none, .buildSl false 1 5 (.int .i64 0) [(0, (.c (.int .i64 0))), (1, (.c (.int .i64 0))), (2, (.c (.int .i64 192))), (3, (.c (.int .i64 224))), (4, (.c (.int .i64 240)))] false⟩, mvT 3 6]) (.seq (.drw 2 [⟨mvF 7 0, 0, []⟩, ⟨⟨some 8, none, .iaddr 1 (.t 7) (.c (.int .i64 0))⟩, 1, []⟩, ⟨⟨some 9, none, .load false 1 (.t 8)⟩, 2, []⟩, ⟨⟨some 10, none, .conv (.toInt .i64) (.t 9)⟩, 3, []⟩, ⟨mvT 11 3, 4, []⟩, ⟨mvF 12 0, 5, []⟩, ⟨⟨some 13, none, .len (.t 12)⟩, 6, []⟩, ⟨⟨some 14, none, .iaddr 1 (.t 11) (.t 13)⟩, 7, []⟩, ⟨⟨some 15, none, .load false 1 (.t 14)⟩, 8, []⟩, ⟨⟨some 16, none, .bin .sub .no (.t 10) (.t 15)⟩, 9, []⟩, ⟨mvF 4 16, 10, []⟩]) (.seq (.seq (.ops 3 [⟨some 5, none, .mv (.c (.int .i64 1)) false⟩]) (.block 0 (.loop [0, 4, 5] [2, 4] [] (.seq (.seq (.ops 4 [mvF 17 5, mvF 18 0, ⟨some 19, none, .len (.t 18)⟩, ⟨some 20, none, .bin .lss .no (.t 17) (.t 19)⟩]) (.cond (.t 20) .skip (.exit 0))) (.seq (.block 1 (.ops 6 [mvF 23 4, ⟨some 24, none, .bin .mul .no (.c (.int .i64 64)) (.t 23)⟩, mvF 25 0, mvF 26 5, ⟨some 27, none, .iaddr 1 (.t 25) (.t 26)⟩, ⟨some 28, none, .load false 1 (.t 27)⟩, ⟨some 29, none, .conv (.toInt .i64) (.t 28)⟩, ⟨some 30, none, .bin .add .no (.t 24) (.t 29)⟩, ⟨some 31, none, .bin .sub .no (.t 30) (.c (.int .i64 128))⟩, mvF 4 31])) (.ops 5 [mvF 21 5, ⟨some 22, none, .bin .add .no (.t 21) (.c (.int .i64 1))⟩, mvF 5 22])))))) (.seq (.ops 7 [mvF 32 4, mvF 2 32]) .ret)))))⟩
theorem ok_c_Z5s : chkFn Tryz.prog 68 c_Z5s = true := chkFn_of Tryz.func68 (by kernel_rfl)
def c_Z64 : Ev.Fn := ⟨43, [.tmp 4], false, false, (.seq (.ops 0 [⟨some 4, none, .mv (.c (.int .i64 0)) false⟩]) (.seq (.block 0 (.loop [0, 1] [1, 4] [] (.seq (.seq (.ops 1 [mvF 5 0, mvF 6 1, ⟨some 7, none, .call 60 [(.t 5), (.t 6), (.c (.int .i64 47))]⟩, mvF 8 7, ⟨some 9, (some (8, true)), .mv (.t 0) false⟩, ⟨some 10, (some (8, true)), .mv (.t 1) false⟩, ⟨some 11, (some (8, true)), .bin .add .no (.t 10) (.c (.int .i64 1))⟩, ⟨some 12, (some (8, true)), .call 60 [(.t 9), (.t 11), (.c (.int .i64 42))]⟩, ⟨some 13, none, .pick (.t 8) (.t 12) (.c (.bool false))⟩]) (.cond (.t 13) .skip (.exit 0))) (.block 1 (.seq (.ops 2 [mvF 14 1, ⟨some 15, none, .bin .add .no (.t 14) (.c (.int .i64 2))⟩, mvF 1 15]) (.seq (.block 2 (.loop [0, 1] [0, 1, 4] [] (.seq (.seq (.ops 3 [mvF 16 1, mvF 17 0, ⟨some 18, none, .len (.t 17)⟩, ⟨some 19, none, .bin .lss .no (.t 16) (.t 18)⟩, mvF 20 19, ⟨some 21, (some (20, true)), .mv (.t 0) false⟩, ⟨some 22, (some (20, true)), .mv (.t 1) false⟩, ⟨some 23, (some (20, true)), .call 60 [(.t 21), (.t 22), (.c (.int .i64 42))]⟩, ⟨some 24, (some (20, true)), .mv (.t 23) false⟩, ⟨some 25, (some (24, true)), .mv (.t 0) false⟩, ⟨some 26, (some (24, true)), .mv (.t 1) false⟩, ⟨some 27, (some (24, true)), .bin .add .no (.t 26) (.c (.int .i64 1))⟩, ⟨some 28, (some (24, true)), .call 60 [(.t 25), (.t 27), (.c (.int .i64 47))]⟩, ⟨some 29, (some (20, true)), .pick (.t 24) (.t 28) (.c (.bool false))⟩, ⟨some 30, (some (20, true)), .un .not (.t 29)⟩, ⟨some 31, none, .pick (.t 20) (.t 30) (.c (.bool false))⟩]) (.cond (.t 31) .skip (.exit 2))) (.block 3 (.ops 4 [mvF 32 1, ⟨some 33, none, .bin .add .no (.t 32) (.c (.int .i64 1))⟩, mvF 1 33]))))) (.seq (.ops 5 [mvF 34 1, ⟨some 35, none, .bin .add .no (.t 34) (.c (.int .i64 2))⟩, mvF 1 35]) (.seq (.ops 6 [mvF 36 1, mvF 37 0, ⟨some 38, none, .len (.t 37)⟩, ⟨some 39, none, .bin .gtr .no (.t 36) (.t 38)⟩]) (.cond (.t 39) (.ops 7 [mvF 40 0, ⟨some 41, none, .len (.t 40)⟩, mvF 1 41]) .skip))))))))) (.seq (.ops 8 [mvF 42 1, mvF 4 42]) .ret)))⟩
theorem ok_c_Z64 : chkFn Tryz.prog 54 c_Z64 = true := chkFn_of Tryz.func54 (by kernel_rfl)
def c_Z5x : Ev.Fn := ⟨13, [.tmp 2], false, false, (.seq (.ops 0 [⟨some 2, none, .mv (.c (.bool false)) false⟩]) (.seq (.ops 1 [mvF 3 0, ⟨some 4, none, .bin .eql .no (.t 3) (.c (.int .i64 32))⟩, mvF 5 4, ⟨some 6, (some (5, false)), .mv (.t 0) false⟩, ⟨some 7, (some (5, false)), .bin .eql .no (.t 6) (.c (.int .i64 9))⟩, ⟨some 8, none, .pick (.t 5) (.c (.bool true)) (.t 7)⟩, mvF 9 8, ⟨some 10, (some (9, false)), .mv (.t 0) false⟩, ⟨some 11, (some (9, false)), .bin .eql .no (.t 10) (.c (.int .i64 10))⟩, ⟨some 12, none, .pick (.t 9) (.c (.bool true)) (.t 11)⟩, mvF 2 12]) .ret))⟩
theorem ok_c_Z5x : chkFn Tryz.prog 55 c_Z5x = true := chkFn_of Tryz.func55 (by kernel_rfl)
def c_Z6b : Ev.Fn := ⟨16, [.tmp 4], false, false, (.seq (.ops 0 [⟨some 4, none, .mv (.c (.bool false)) false⟩]) (.seq (.ops 1 [mvF 5 1, mvF 6 0, ⟨some 7, none, .len (.t 6)⟩, ⟨some 8, none, .bin .lss .no (.t 5) (.t 7)⟩, mvF 9 8, ⟨some 10, (some (9, true)), .mv (.t 0) true⟩, ⟨some 11, (some (9, true)), .mv (.t 1) false⟩, ⟨some 12, (some (9, true)), .iaddr 1 (.t 10) (.t 11)⟩, ⟨some 13, (some (9, true)), .load false 1 (.t 12)⟩, ⟨some 14, (some (9, true)), .call 55 [.t 13]⟩, ⟨some 15, none, .pick (.t 9) (.t 14) (.c (.bool false))⟩, mvF 4 15]) .ret))⟩
theorem ok_c_Z6b : chkFn Tryz.prog 56 c_Z6b = true := chkFn_of Tryz.func56 (by kernel_rfl)
def c_Z6a : Ev.Fn := ⟨29, [.tmp 4], false, false, (.seq (.ops 0 [⟨some 4, none, .mv (.c (.bool false)) false⟩]) (.seq (.seq (.ops 1 [mvF 5 0, mvF 6 1, ⟨some 7, none, .call 60 [(.t 5), (.t 6), (.c (.int .i64 43))]⟩, mvF 8 7, ⟨some 9, (some (8, false)), .mv (.t 0) false⟩, ⟨some 10, (some (8, false)), .mv (.t 1) false⟩, ⟨some 11, (some (8, false)), .call 60 [(.t 9), (.t 10), (.c (.int .i64 45))]⟩, ⟨some 12, none, .pick (.t 8) (.c (.bool true)) (.t 11)⟩]) (.cond (.t 12) (.ops 2 [mvF 13 1, ⟨some 14, none, .bin .add .no (.t 13) (.c (.int .i64 1))⟩, mvF 1 14]) .skip)) (.seq (.ops 3 [mvF 15 0, mvF 16 1, ⟨some 17, none, .call 89 [(.t 15), (.t 16)]⟩, mvF 18 17, ⟨some 19, (some (18, false)), .mv (.t 0) false⟩, ⟨some 20, (some (18, false)), .mv (.t 1) false⟩, ⟨some 21, (some (18, false)), .call 60 [(.t 19), (.t 20), (.c (.int .i64 46))]⟩, ⟨some 22, (some (18, false)), .mv (.t 21) false⟩, ⟨some 23, (some (22, true)), .mv (.t 0) true⟩, ⟨some 24, (some (22, true)), .mv (.t 1) false⟩, ⟨some 25, (some (22, true)), .bin .add .no (.t 24) (.c (.int .i64 1))⟩, ⟨some 26, (some (22, true)), .call 89 [(.t 23), (.t 25)]⟩, ⟨some 27, (some (18, false)), .pick (.t 22) (.t 26) (.c (.bool false))⟩, ⟨some 28, none, .pick (.t 18) (.c (.bool true)) (.t 27)⟩, mvF 4 28]) .ret)))⟩
theorem ok_c_Z6a : chkFn Tryz.prog 58 c_Z6a = true := chkFn_of Tryz.func58 (by kernel_rfl)
def c_Z68 : Ev.Fn := ⟨19, [.tmp 6], false, false, (.seq (.ops 0 [⟨some 6, none, .mv (.c (.bool false)) false⟩]) (.seq (.ops 1 [mvF 7 1, mvF 8 0, ⟨some 9, none, .len (.t 8)⟩, ⟨some 10, none, .bin .lss .no (.t 7) (.t 9)⟩, mvF 11 10, ⟨some 12, (some (11, true)), .mv (.t 0) true⟩, ⟨some 13, (some (11, true)), .mv (.t 1) false⟩, ⟨some 14, (some (11, true)), .iaddr 1 (.t 12) (.t 13)⟩, ⟨some 15, (some (11, true)), .load false 1 (.t 14)⟩, ⟨some 16, (some (11, true)), .mv (.t 2) false⟩, ⟨some 17, (some (11, true)), .bin .eql .no (.t 15) (.t 16)⟩, ⟨some 18, none, .pick (.t 11) (.t 17) (.c (.bool false))⟩, mvF 6 18]) .ret))⟩
theorem ok_c_Z68 : chkFn Tryz.prog 60 c_Z68 = true := chkFn_of Tryz.func60 (by kernel_rfl)
def c_Z61 : Ev.Fn := ⟨32, [.tmp 4], false, false, (.seq (.ops 0 [⟨some 4, none, .mv (.c (.bool false)) false⟩]) (.seq (.seq (.ops 1 [mvF 5 0, mvF 6 1, ⟨some 7, none, .call 60 [(.t 5), (.t 6), (.c (.int .i64 45))]⟩]) (.cond (.t 7) (.seq (.ops 2 [mvF 8 0, mvF 9 1, ⟨some 10, none, .bin .add .no (.t 9) (.c (.int .i64 1))⟩, ⟨some 11, none, .call 60 [(.t 8), (.t 10), (.c (.int .i64 45))]⟩, mvF 12 11, ⟨some 13, (some (12, false)), .mv (.t 0) false⟩, ⟨some 14, (some (12, false)), .mv (.t 1) false⟩, ⟨some 15, (some (12, false)), .bin .add .no (.t 14) (.c (.int .i64 1))⟩, ⟨some 16, (some (12, false)), .call 91 [(.t 13), (.t 15)]⟩, ⟨some 17, none, .pick (.t 12) (.c (.bool true)) (.t 16)⟩, mvF 18 17, ⟨some 19, (some (18, false)), .mv (.t 0) true⟩, ⟨some 20, (some (18, false)), .mv (.t 1) false⟩, ⟨some 21, (some (18, false)), .bin .add .no (.t 20) (.c (.int .i64 1))⟩, ⟨some 22, (some (18, false)), .call 65 [(.t 19), (.t 21)]⟩, ⟨some 23, none, .pick (.t 18) (.c (.bool true)) (.t 22)⟩, mvF 4 23]) .ret) .skip)) (.seq (.ops 3 [mvF 24 0, mvF 25 1, ⟨some 26, none, .call 91 [(.t 24), (.t 25)]⟩, mvF 27 26, ⟨some 28, (some (27, false)), .mv (.t 0) true⟩, ⟨some 29, (some (27, false)), .mv (.t 1) false⟩, ⟨some 30, (some (27, false)), .call 65 [(.t 28), (.t 29)]⟩, ⟨some 31, none, .pick (.t 27) (.c (.bool true)) (.t 30)⟩, mvF 4 31]) .ret)))⟩
theorem ok_c_Z61 : chkFn Tryz.prog 61 c_Z61 = true := chkFn_of Tryz.func61 (by kernel_rfl)
end Go.Proofs.YtenicbbhihbkcaaGreatDoor
