/- A region whose order is open: the order of the text serves every order: the theorem. -/
import Derived.Test.YtbdohnigbnhjnaaVkDraw
set_option linter.unusedSimpArgs false
set_option linter.unusedVariables false
set_option linter.unusedSectionVars false
namespace Go.Vk
section
variable {P : Program} {C : Con} {own : FuncId → List (Nat × TypeId × Nat)} {n : Nat}

theorem disj_spec {a b : List Nat} (h : disj a b = true) : ∀ x ∈ a, x ∉ b := fun x hx hb => by
  have := List.all_eq_true.1 h x hx
  simp at this
  exact this hb
theorem meetOk_spec {bef : Nat → Nat → Bool} {tr : Trace} (h : meetOk bef tr = true) {i j : Nat} (hij : i < j) {ri wi rj wj : List Nat} (hi : tr[i]? = some (ri, wi)) (hj : tr[j]? = some (rj, wj)) (hb : bef i j = false) :
    (∀ x ∈ wi, x ∉ rj) ∧ (∀ x ∈ wi, x ∉ wj) ∧ (∀ x ∈ ri, x ∉ wj) := by
  have hjl : j < tr.length := by
    rcases Nat.lt_or_ge j tr.length with h | h
    · exact h
    · rw [List.getElem?_eq_none h] at hj; cases hj
  have h1 := List.all_eq_true.1 h j (List.mem_range.2 hjl)
  have h2 := List.all_eq_true.1 h1 i (List.mem_range.2 hij)
  simp only [hb, Bool.false_or, hi, hj, Bool.and_eq_true] at h2
  exact ⟨disj_spec h2.1.1, disj_spec h2.1.2, disj_spec h2.2⟩
theorem slotsOk_spec {ios : List OpI} (h : slotsOk ios = true) {i j : Nat} (hij : i < j) {x y : OpI} (hi : ios[i]? = some x) (hj : ios[j]? = some y) (hb : befOf ios i j = false) : apartIO x y = true := by
  have hjl : j < ios.length := by
    rcases Nat.lt_or_ge j ios.length with h | h
    · exact h
    · rw [List.getElem?_eq_none h] at hj; cases hj
  have h1 := List.all_eq_true.1 h j (List.mem_range.2 hjl)
  have h2 := List.all_eq_true.1 h1 i (List.mem_range.2 hij)
  simpa [hb, hi, hj] using h2
theorem apartIO_spec {x y : OpI} (h : apartIO x y = true) : (∀ d, x.d = some d → d ∉ y.looks) ∧ (∀ d, x.d = some d → y.d ≠ some d) ∧ (∀ d, y.d = some d → d ∉ x.looks) := by
  unfold apartIO at h
  simp only [Bool.and_eq_true] at h
  obtain ⟨h1, h2⟩ := h
  refine ⟨fun d hd => ?_, fun d hd he => ?_, fun d hd => ?_⟩
  · rw [hd] at h1
    simp only [Bool.and_eq_true] at h1
    simpa using h1.1
  · rw [hd] at h1
    simp only [he, Bool.and_eq_true] at h1
    simp at h1
  · rw [hd] at h2
    simpa using h2

/-- Names in use, some operations having come up. -/
def usedBy (base : Nat) (L : Nat → Bool) : Nat → Prop := fun t => t < base ∨ ∃ i, L i = true ∧ base + 8 * i ≤ t ∧ t < base + 8 * i + 8

def listedB (l : Array Bool) : Nat → Bool := fun i => l.getD i false
theorem listedB_set {l : Array Bool} {i : Nat} (h : i < l.size) (j : Nat) : listedB (l.setIfInBounds i true) j = (decide (j = i) || listedB l j) := by
  unfold listedB
  by_cases e : j = i
  · subst e; simp [Array.getD, h]
  · simp only [e, decide_false, Bool.false_or]
    by_cases hj : j < l.size
    · simp [Array.getD, hj, Array.getElem_setIfInBounds, Ne.symm e]
    · simp [Array.getD, hj]

theorem mem_ready' {ops : Array Oper} {l : Array Bool} (hs : l.size = ops.size) {i : Nat} (h : i ∈ Region.ready .any ops l) : i < ops.size ∧ listedB l i = false ∧ ∀ o e, ops[i]? = some o → e ∈ o.after → Region.binds .any e = true → listedB l e.on = true := by
  unfold Region.ready at h
  simp only [List.mem_filter, List.mem_range, Bool.and_eq_true, Bool.not_eq_true'] at h
  obtain ⟨h1, h2, h3⟩ := h
  refine ⟨h1, ?_, fun o e ho he hb => ?_⟩
  · unfold listedB
    have : i < l.size := by omega
    simp [Array.getD, this] at h2 ⊢
    exact h2
  · rw [ho] at h3
    simp only [Option.map_some, Option.getD_some] at h3
    have := Array.all_eq_true_iff_forall_mem.1 h3 e he
    simpa [hb, listedB] using this
theorem ready_nil {ops : Array Oper} {l : Array Bool} (hs : l.size = ops.size) (he : edgesOk ops = true) (h : Region.ready .any ops l = []) : ∀ i, i < ops.size → listedB l i = true := by
  intro i
  induction i using Nat.strongRecOn with
  | _ i ih =>
    intro hi
    cases hl : listedB l i with
    | true => rfl
    | false =>
      have hi2 : i < l.size := by omega
      have : i ∈ Region.ready .any ops l := by
        unfold Region.ready
        simp only [List.mem_filter, List.mem_range, Bool.and_eq_true, Bool.not_eq_true']
        refine ⟨hi, ?_, ?_⟩
        · unfold listedB at hl
          simp [Array.getD, hi2] at hl ⊢
          exact hl
        · rw [Array.getElem?_eq_getElem hi]
          simp only [Option.map_some, Option.getD_some]
          rw [Array.all_eq_true_iff_forall_mem]
          intro e hee
          have h1 := List.all_eq_true.1 he i (List.mem_range.2 hi)
          rw [Array.getElem?_eq_getElem hi] at h1
          have h2 := Array.all_eq_true_iff_forall_mem.1 h1 e hee
          cases hb : Region.binds .any e with
          | false => rfl
          | true =>
            simp only [hb, Bool.not_true, Bool.false_or, decide_eq_true_eq] at h2
            have := ih e.on h2 (by omega)
            simpa [listedB] using this
      rw [h] at this
      cases this

theorem draw_main (hC : ∀ f args out, C f args out → TC P f args out) {ops : Array Oper} {ios : List OpI} {outs : Outs} {tr : Trace} {base : Nat} {get0 : Nat → V} {ob0 : Gt} {Q : Exit → Act → World → Prop} {g0 : G} {w0 : World}
    (hlen : ios.length = ops.size) (hop : ∀ (i : Nat) (o : Oper) (io : OpI), ops[i]? = some o → ios[i]? = some io → (∃ bef, compOper P own ops bef o = some io) ∧ (∀ d, o.dst = some d → d < n) ∧ (∀ s want, io.g = some (s, want) → s < n))
    (hbef : ∀ i j, befOf ios i j = true → Reach ops i j) (hslots : slotsOk ios = true) (hedges : edgesOk ops = true) (hmeet : meetOk (befOf ios) tr = true)
    (hfact : ∀ i io, ios[i]? = some io → Fact C base outs tr get0 ob0 i io) (hol : outs.length = ios.length)
    (hQ : ∀ g' w' a', Sim g' w' n a' (gP (fun _ => true) outs 0 get0) (oP (fun _ => true) outs 0 ob0) (below (base + 8 * ios.length)) → Step g0 w0 ob0 (below base) g' w' (oP (fun _ => true) outs 0 ob0) (below (base + 8 * ios.length)) → Q .normal a' w') :
    ∀ (fuel : Nat) (l : Array Bool) (a : Act) (w : World) (g : G), l.size = ops.size → (∀ (j : Nat) (o : Oper) (e : Edge), listedB l j = true → ops[j]? = some o → e ∈ o.after → Region.binds .any e = true → listedB l e.on = true) →
      ((List.range ops.size).filter fun i => !listedB l i).length = fuel →
      Sim g w n a (gP (listedB l) outs 0 get0) (oP (listedB l) outs 0 ob0) (usedBy base (listedB l)) → Step g0 w0 ob0 (below base) g w (oP (listedB l) outs 0 ob0) (usedBy base (listedB l)) →
      wpAny P .any ops Q fuel l a w := by
  have fin : ∀ (l : Array Bool) (a : Act) (w : World) (g : G), l.size = ops.size → (∀ i, i < ops.size → listedB l i = true) → Sim g w n a (gP (listedB l) outs 0 get0) (oP (listedB l) outs 0 ob0) (usedBy base (listedB l)) →
      Step g0 w0 ob0 (below base) g w (oP (listedB l) outs 0 ob0) (usedBy base (listedB l)) → Q .normal a w := by
    intro l a w g hs hall hsim hst
    have hlt : ∀ i d v u, outs[i]? = some (d, v, u) → i < ops.size := fun i d v u h => by
      rcases Nat.lt_or_ge i outs.length with h' | h'
      · omega
      · rw [List.getElem?_eq_none h'] at h; cases h
    have e1 : gP (listedB l) outs 0 get0 = gP (fun _ => true) outs 0 get0 := funext fun s => gP_congr outs 0 _ _ (fun i d v u h _ => by rw [Nat.zero_add]; exact hall i (hlt i d v u h)) rfl
    have e2 : oP (listedB l) outs 0 ob0 = oP (fun _ => true) outs 0 ob0 := funext fun t => oP_congr outs 0 _ _ (fun i d v u h _ => by rw [Nat.zero_add]; exact hall i (hlt i d v u h)) rfl
    have hsub : ∀ t, usedBy base (listedB l) t → below (base + 8 * ios.length) t := fun t ht => by
      unfold below
      rcases ht with h | ⟨i, h1, h2, h3⟩
      · omega
      · have : i < l.size := by
          rcases Nat.lt_or_ge i l.size with h | h
          · exact h
          · simp [listedB, Array.getD, show ¬ i < l.size by omega] at h1
        omega
    rw [e1, e2] at hsim
    rw [e2] at hst
    have hst' := hst.used hsub
    exact hQ g w a ⟨hsim.defers, hsim.size, fun s => RepV.mono (Le.grow hsub) _ _ (hsim.slot s), hsim.inv.used hsub⟩ hst'
  intro fuel
  induction fuel with
  | zero =>
    intro l a w g hs hdown hcount hsim hst
    have hall : ∀ i, i < ops.size → listedB l i = true := fun i hi => by
      cases hl : listedB l i with
      | true => rfl
      | false =>
        have : i ∈ (List.range ops.size).filter fun i => !listedB l i := by simp [hi, hl]
        rw [List.eq_nil_of_length_eq_zero hcount] at this
        cases this
    refine ⟨?_, fin l a w g hs hall hsim hst⟩
    cases hr : Region.ready .any ops l with
    | nil => rfl
    | cons i r =>
      have hm : i ∈ Region.ready .any ops l := by rw [hr]; simp
      obtain ⟨h1, h2, _⟩ := mem_ready' hs hm
      rw [hall i h1] at h2
      cases h2
  | succ fuel ih =>
    intro l a w g hs hdown hcount hsim hst
    refine ⟨fun hr => fin l a w g hs (ready_nil hs hedges hr) hsim hst, fun i hi => ?_⟩
    obtain ⟨hlt, hun, hpre⟩ := mem_ready' hs hi
    have ho : ops[i]? = some ops[i] := Array.getElem?_eq_getElem hlt
    have hio : ios[i]? = some ios[i] := List.getElem?_eq_getElem (by omega)
    obtain ⟨⟨bef, hcomp⟩, hd, hgl⟩ := hop i _ _ ho hio
    obtain ⟨d, v, u, rd, f1, f2, f3, f4⟩ := hfact i _ hio
    -- who came before, who did not
    have hbefore : ∀ j, befOf ios j i = true → listedB l j = true := fun j hj => (hbef j i hj).listed' hdown fun o e ho' he hb => hpre o e ho' he hb
    have hafter : ∀ j, befOf ios i j = true → listedB l j = false := fun j hj => by
      cases hl : listedB l j with
      | false => rfl
      | true => rw [(hbef i j hj).listed hdown hl] at hun; cases hun
    have hself : decide (i < i) = listedB l i := by rw [hun]; simp
    -- a number that must have come the way the text has it
    have agree : ∀ j io', ios[j]? = some io' → (j < i → befOf ios j i = false → False) → (i < j → befOf ios i j = false → False) → listedB l j = decide (j < i) := by
      intro j io' _ hb ha
      rcases Nat.lt_trichotomy j i with h | h | h
      · rw [show decide (j < i) = true by simp [h]]
        refine hbefore j ?_
        cases hx : befOf ios j i with
        | true => rfl
        | false => exact (hb h hx).elim
      · subst h; exact hself.symm
      · rw [show decide (j < i) = false by simp; omega]
        refine hafter j ?_
        cases hx : befOf ios i j with
        | true => rfl
        | false => exact (ha h hx).elim
    have outio : ∀ (j : Nat) (d' : Option Nat) (v' : V) (u' : Upd), outs[j]? = some (d', v', u') → ∃ io' : OpI, ios[j]? = some io' ∧ d' = io'.d ∧ ∃ rd', tr[j]? = some (rd', u'.map (·.1)) := fun j d' v' u' h => by
      have hj : j < ios.length := by
        rcases Nat.lt_or_ge j outs.length with h' | h'
        · omega
        · rw [List.getElem?_eq_none h'] at h; cases h
      have hio' : ios[j]? = some ios[j] := List.getElem?_eq_getElem hj
      obtain ⟨d2, v2, u2, rd2, a1, a2, a3, _⟩ := hfact j _ hio'
      rw [h] at a1
      simp at a1
      obtain ⟨rfl, rfl, rfl⟩ := a1
      exact ⟨_, hio', a3, rd2, a2⟩
    have hslot : ∀ s ∈ ios[i].looks, gP (fun j => decide (j < i)) outs 0 get0 s = gP (listedB l) outs 0 get0 s := fun s hs' => by
      refine gP_congr outs 0 _ _ (fun j d' v' u' h hds => ?_) rfl
      rw [Nat.zero_add]
      obtain ⟨io', hj, hd', _⟩ := outio j d' v' u' h
      refine (agree j io' hj (fun hji hb => ?_) (fun hij hb => ?_)).symm
      · exact (apartIO_spec (slotsOk_spec hslots hji hj hio hb)).1 s (hd' ▸ hds) hs'
      · exact (apartIO_spec (slotsOk_spec hslots hij hio hj hb)).2.2 s (hd' ▸ hds) hs'
    have hobj : ∀ t ∈ rd, oP (fun j => decide (j < i)) outs 0 ob0 t = oP (listedB l) outs 0 ob0 t := fun t ht => by
      refine oP_congr outs 0 _ _ (fun j d' v' u' h hk => ?_) rfl
      rw [Nat.zero_add]
      obtain ⟨io', hj, _, rd', htr⟩ := outio j d' v' u' h
      refine (agree j io' hj (fun hji hb => ?_) (fun hij hb => ?_)).symm
      · exact (meetOk_spec hmeet hji htr f2 hb).1 t hk ht
      · exact (meetOk_spec hmeet hij f2 htr hb).2.2 t ht hk
    -- the state with number i come up
    have hset : ∀ j, listedB (l.setIfInBounds i true) j = (decide (j = i) || listedB l j) := listedB_set (by omega)
    have hg' : gP (listedB (l.setIfInBounds i true)) outs 0 get0 = apG d v (gP (listedB l) outs 0 get0) := by
      funext s
      by_cases hds : d = some s
      · rw [show apG d v (gP (listedB l) outs 0 get0) s = v by simp [apG, hds]]
        refine gP_last outs 0 i get0 (by rw [← hds]; exact f1) (by rw [Nat.zero_add, hset]; simp) fun j d' v' u' hij h hd' => ?_
        rw [Nat.zero_add, hset]
        obtain ⟨io', hj, hd2, _⟩ := outio j d' v' u' h
        rw [show decide (j = i) = false by simp; omega, Bool.false_or]
        refine hafter j ?_
        cases hx : befOf ios i j with
        | true => rfl
        | false => exact absurd (hd2 ▸ hd') ((apartIO_spec (slotsOk_spec hslots hij hio hj hx)).2.1 s (f3 ▸ hds))
      · rw [show apG d v (gP (listedB l) outs 0 get0) s = gP (listedB l) outs 0 get0 s by simp [apG, hds]]
        refine gP_congr outs 0 _ _ (fun j d' v' u' h hd' => ?_) rfl
        rw [Nat.zero_add, hset]
        by_cases e : j = i
        · subst e
          rw [f1] at h
          simp at h
          exact absurd (h.1 ▸ hd') (fun hh => hds (by rw [h.1]; exact hd'))
        · simp [e]
    have ho' : oP (listedB (l.setIfInBounds i true)) outs 0 ob0 = updf u (oP (listedB l) outs 0 ob0) := by
      funext t
      by_cases ht : t ∈ u.map (·.1)
      · refine oP_last ht _ outs 0 i ob0 f1 (by rw [Nat.zero_add, hset]; simp) fun j d' v' u' hij h hk => ?_
        rw [Nat.zero_add, hset]
        obtain ⟨io', hj, _, rd', htr⟩ := outio j d' v' u' h
        rw [show decide (j = i) = false by simp; omega, Bool.false_or]
        refine hafter j ?_
        cases hx : befOf ios i j with
        | true => rfl
        | false => exact absurd hk ((meetOk_spec hmeet hij f2 htr hx).2.1 t ht)
      · rw [updf_other u ht]
        refine oP_congr outs 0 _ _ (fun j d' v' u' h hk => ?_) rfl
        rw [Nat.zero_add, hset]
        by_cases e : j = i
        · subst e
          rw [f1] at h
          simp at h
          obtain ⟨_, _, rfl⟩ := h
          exact absurd hk ht
        · simp [e]
    have hU : ∀ t, fresh8 (usedBy base (listedB l)) (base + 8 * i) t → usedBy base (listedB (l.setIfInBounds i true)) t := fun t ht => by
      rcases ht with (h | ⟨j, h1, h2⟩) | h
      · exact .inl h
      · exact .inr ⟨j, by rw [hset, h1]; simp, h2⟩
      · exact .inr ⟨i, by rw [hset]; simp, h.1, by omega⟩
    have hfr : ∀ k, base + 8 * i ≤ k → k < base + 8 * i + 8 → ¬ usedBy base (listedB l) k := fun k h1 h2 h => by
      rcases h with h | ⟨j, h3, h4, h5⟩
      · omega
      · have : j = i := by omega
        subst this
        rw [hun] at h3; cases h3
    -- what remains
    have rest : ∀ g' w' x, Sim g' w' n (a.put ops[i].dst x) (apG d v (gP (listedB l) outs 0 get0)) (updf u (oP (listedB l) outs 0 ob0)) (fresh8 (usedBy base (listedB l)) (base + 8 * i)) →
        Step g w (oP (listedB l) outs 0 ob0) (usedBy base (listedB l)) g' w' (updf u (oP (listedB l) outs 0 ob0)) (fresh8 (usedBy base (listedB l)) (base + 8 * i)) → wpAny P .any ops Q fuel (l.setIfInBounds i true) (a.put ops[i].dst x) w' := by
      intro g' w' x h1 h2
      refine ih (l.setIfInBounds i true) _ w' g' (by simpa using hs) ?_ ?_ ?_ ?_
      · intro j o e hj hoj he hb
        rw [hset] at hj ⊢
        by_cases e' : j = i
        · subst e'
          rw [hpre o e hoj he hb]; simp
        · simp only [e', decide_false, Bool.false_or] at hj
          rw [hdown j o e hj hoj he hb]; simp
      · have hperm : ((List.range ops.size).filter fun j => !listedB (l.setIfInBounds i true) j) = ((List.range ops.size).filter fun j => !listedB l j).filter fun j => decide (j ≠ i) := by
          rw [List.filter_filter]
          apply List.filter_congr
          intro j _
          rw [hset]
          by_cases e : j = i <;> simp [e]
        have hcount1 : ∀ (L : List Nat), L.Nodup → i ∈ L → (L.filter fun j => decide (j ≠ i)).length + 1 = L.length := by
          intro L
          induction L with
          | nil => intro _ h; cases h
          | cons b r ihL =>
            intro hnd hm
            obtain ⟨h3, h4⟩ := List.nodup_cons.1 hnd
            by_cases e : b = i
            · subst e
              have : (r.filter fun j => decide (j ≠ b)) = r := List.filter_eq_self.2 fun j hj => by simp; intro e; exact h3 (e ▸ hj)
              rw [List.filter_cons_of_neg (by simp), this]
              simp
            · have := ihL h4 ((List.mem_cons.1 hm).resolve_left fun e' => e e'.symm)
              rw [List.filter_cons_of_pos (by simp [e])]
              simp only [List.length_cons]
              omega
        rw [hperm]
        have := hcount1 _ ((List.nodup_range).sublist List.filter_sublist) (by simp [hlt, hun] : i ∈ (List.range ops.size).filter fun j => !listedB l j)
        omega
      · rw [hg', ho']
        exact ⟨h1.defers, h1.size, fun s => RepV.mono (Le.grow hU) _ _ (h1.slot s), h1.inv.used hU⟩
      · rw [ho']
        exact hst.trans (h2.used hU)
    unfold wpOp
    rw [ho]
    obtain ⟨q1, q2, q2', q3⟩ := guard_simG hcomp hsim
    have f3' : ops[i].dst = d := by rw [f3, q3]
    have hfresh : ∀ t, usedBy base (listedB l) t → fresh8 (usedBy base (listedB l)) (base + 8 * i) t := fun _ h => .inl h
    rcases f4 with ⟨hg, hdo, hrd⟩ | ⟨s, want, hg, hb, hv, hu⟩
    · have hdo' : Do C (base + 8 * i) (gP (listedB l) outs 0 get0) (oP (listedB l) outs 0 ob0) ios[i].op v u :=
        Do_congr (fun s hs' => hslot s (by simp [OpI.looks, hs'])) (fun t ht => hobj t (hrd ▸ ht)) hdo
      have hwant : Region.wanted ops[i] (yielded ops a.tmps) = true := by
        rcases hg with hg | ⟨s, want, hg, hb⟩
        · exact q1 hg
        · rw [q2 s want want hg (by rw [← hslot s (by unfold OpI.looks; rw [hg]; simp)]; exact hb) (hgl s want hg)]; simp
      simp only [hwant, if_true]
      refine .inl (Do_sound hC hcomp hd hsim hfr hdo' fun g' w' x h1 h2 => ?_)
      rw [f3'] at h1 ⊢
      have := rest g' w' x
      rw [f3'] at this
      exact this h1 h2
    · have hwant : Region.wanted ops[i] (yielded ops a.tmps) = false := by
        exact q2' s want hg (by rw [← hslot s (by unfold OpI.looks; rw [hg]; simp)]; exact hb) (hgl s want hg)
      simp only [hwant, Bool.false_eq_true, if_false]
      subst hv hu
      have hst0 : Step g w (oP (listedB l) outs 0 ob0) (usedBy base (listedB l)) g w (updf [] (oP (listedB l) outs 0 ob0)) (fresh8 (usedBy base (listedB l)) (base + 8 * i)) := .same hsim.inv (.inl rfl) hfresh fun _ _ h => h
      have h1 := SimG.next (d := ops[i].dst) (v := .tup []) (x := undef) (u := []) hsim hd hst0 ⟨[], rfl, rfl⟩
      rw [f3'] at h1 
      have := rest g w undef
      rw [f3'] at this ⊢
      exact this h1 hst0

theorem wp_draw (hC : ∀ f args out, C f args out → TC P f args out) (hm : P.follows .mixedOrders = true) {id : Nat} {ops : Array Oper} {ios : List OpI} {st : St} {K : St → Prop} {Q : Exit → Act → World → Prop} {g : G} {w : World} {a : Act}
    (hios : compOpers P own ops (Region.before ops).toList ops.toList = some ios) (hdst : dstOk n ops.toList = true) (hslots : slotsOk ios = true) (hedges : edgesOk ops = true)
    (hs : Sim g w n a st.get st.obf (below st.nx)) (hW : Wdraw C (fun tr st => meetOk (befOf ios) tr = true ∧ K st) ios [] st)
    (hQ : ∀ st' g' w' a', K st' → Sim g' w' n a' st'.get st'.obf (below st'.nx) → Step g w st.obf (below st.nx) g' w' st'.obf (below st'.nx) → Q .normal a' w') : (Code.region id ops true).wp P Q a w := by
  obtain ⟨outs, tr, st', ⟨hmeet, hk⟩, k2, k3, k4, k5, k6, k7⟩ := Wdraw_outs ios [] st hW
  obtain ⟨e1, e2⟩ := compOpers_ok hios
  have hbefeq : ∀ j io, ios[j]? = some io → io.bef = (Region.before ops).getD j 0 := by
    intro j io hj
    have hjl : j < ops.size := by
      rcases Nat.lt_or_ge j ios.length with h | h
      · rw [e1] at h; simpa using h
      · rw [List.getElem?_eq_none h] at hj; cases hj
    have hc := e2 j ops[j] io (by simp [hjl]) hj
    have : io.bef = (Region.before ops).toList[j]?.getD 0 := by
      unfold compOper at hc
      split at hc
      · split at hc
        · simp at hc; subst hc; simp
        · split at hc
          · simp at hc; subst hc; simp
          · simp at hc
      · simp at hc
    rw [this]
    simp [Array.getD]
    by_cases h : j < (Region.before ops).size <;> simp [h]
  have hst0 : Step g w st.obf (below st.nx) g w.drew st.obf (below st.nx) := .same hs.inv (.inr rfl) (fun _ h => h) fun _ _ h => h
  have noneL : ∀ i, listedB (Array.replicate ops.size false) i = false := fun i => by
    unfold listedB
    by_cases h : i < ops.size <;> simp [Array.getD, h]
  have zg : gP (listedB (Array.replicate ops.size false)) outs 0 st.get = st.get := by
    funext s
    rw [gP_congr (q := fun j => decide (j < 0)) outs 0 st.get st.get (fun i _ _ _ _ _ => by rw [noneL]; simp) rfl]
    have : ∀ (o : Outs) (k : Nat) (get : Nat → V), gP (fun j => decide (j < 0)) o k get = get := by
      intro o
      induction o with
      | nil => intros; rfl
      | cons x r ih => intro k get; obtain ⟨a, b, c⟩ := x; simp only [gP]; rw [ih]; simp
    rw [this]
  have zo : oP (listedB (Array.replicate ops.size false)) outs 0 st.obf = st.obf := by
    funext s
    rw [oP_congr (q := fun j => decide (j < 0)) outs 0 st.obf st.obf (fun i _ _ _ _ _ => by rw [noneL]; simp) rfl]
    have : ∀ (o : Outs) (k : Nat) (ob : Gt), oP (fun j => decide (j < 0)) o k ob = ob := by
      intro o
      induction o with
      | nil => intros; rfl
      | cons x r ih => intro k ob; obtain ⟨a, b, c⟩ := x; simp only [oP]; rw [ih]; simp
    rw [this]
  have hU0 : ∀ t, below st.nx t → usedBy st.nx (listedB (Array.replicate ops.size false)) t := fun t h => .inl h
  refine wp_region_any hm (draw_main (own := own) (n := n) (g0 := g) (w0 := w) hC (by simpa using e1) ?_ ?_ hslots hedges hmeet k7 (by simpa using k2) ?_ ops.size _ a w.drew g (by simp) ?_ ?_ ?_ ?_)
  · intro i o io ho hio
    have hil : i < ops.size := (Array.getElem?_eq_some_iff.1 ho).1
    refine ⟨⟨_, e2 i o io (by rw [Array.getElem?_toList]; exact ho) hio⟩, fun d hd => dstOk_spec hdst (by have := Array.mem_of_getElem? ho; simpa using this) hd, ?_⟩
    exact guard_lt (e2 i o io (by rw [Array.getElem?_toList]; exact ho) hio) hdst
  · intro i j h
    unfold befOf at h
    split at h
    · rename_i o ho
      rw [hbefeq j o ho] at h
      exact before_reach ops j i h
    · cases h
  · intro g' w' a' h1 h2
    refine hQ st' g' w' a' hk ?_ ?_
    · rw [k4]
      exact ⟨h1.defers, h1.size, fun s => by rw [k5]; exact h1.slot s, by rw [k6]; exact h1.inv⟩
    · rw [k4, k6]; exact h2
  · intro j o e h; rw [noneL] at h; cases h
  · rw [List.filter_eq_self.2 (fun i _ => by rw [noneL]; rfl)]; simp
  · rw [zg, zo]
    exact ⟨hs.defers, hs.size, fun s => RepV.mono ((le_drew g w _).trans (Le.grow hU0)) _ _ (hs.slot s), hst0.inv.used hU0⟩
  · rw [zo]; exact hst0.used hU0
end
end Go.Vk
