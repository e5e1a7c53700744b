/- At a loop's head: forgetting and renaming. -/
import Derived.Test.YtbdohnigbnhjnaaVkDraw2
set_option linter.unusedSimpArgs false
set_option linter.unusedVariables false
set_option linter.unusedSectionVars false
namespace Go.Vk
section
variable {g : G} {w : World}

theorem under0 {n : Nat} {gA : G} {U UA : Nat → Prop} (hfr : gA.fr = g.fr) (hph : ∀ t, t < n → gA.ph t = g.ph t ∧ gA.vt t = g.vt t) (hUA : ∀ t, t < n → UA t) : ∀ {v : V} {u : Value},
    (match v with | .own t _ => decide (t < n) | .ptr b _ => decide (b < n) | .d _ | .nils | .nilp | .nilfn => true | _ => false) = true → RepV g w U v u → RepV gA w UA v u := by
  intro v u h hv
  cases v <;> simp at h
  case d x => rw [show RepV gA w UA (V.d x) u = RepD gA.fr w x u from rfl, hfr]; exact hv
  case nils => exact hv
  case own t l => exact ⟨hUA t h, by rw [(hph t h).2]; exact hv.2.1, hv.2.2⟩
  case ptr b o => exact ⟨hUA b h, by rw [(hph b h).1]; exact hv.2⟩
  case nilp => exact hv
  case nilfn => exact hv
theorem under0s {n : Nat} {gA : G} {U UA : Nat → Prop} (hfr : gA.fr = g.fr) (hph : ∀ t, t < n → gA.ph t = g.ph t ∧ gA.vt t = g.vt t) (hUA : ∀ t, t < n → UA t) : ∀ {vs : List V} {us : List Value},
    (vs.all fun | .own t _ => decide (t < n) | .ptr b _ => decide (b < n) | .d _ | .nils | .nilp | .nilfn => true | _ => false) = true → RepVs g w U vs us → RepVs gA w UA vs us
  | [], _, _, h => h
  | v :: r, _, ha, h => by
    obtain ⟨u, s, rfl, h2, h3⟩ := h
    simp only [List.all_cons, Bool.and_eq_true] at ha
    exact ⟨u, s, rfl, under0 hfr hph hUA ha.1 h2, under0s hfr hph hUA ha.2 h3⟩
theorem under_rep {n : Nat} {gA : G} {U UA : Nat → Prop} (hfr : gA.fr = g.fr) (hph : ∀ t, t < n → gA.ph t = g.ph t ∧ gA.vt t = g.vt t) (hUA : ∀ t, t < n → UA t) {v : V} {u : Value} (h : v.under n = true) (hv : RepV g w U v u) : RepV gA w UA v u := by
  cases v with
  | dptr cs => obtain ⟨b, off, h1, h2⟩ := hv; exact ⟨b, off, h1, by rw [hfr]; exact h2⟩
  | fn f caps => obtain ⟨us, h1, h2⟩ := hv; exact ⟨us, h1, under0s hfr hph hUA h h2⟩
  | agg cs => obtain ⟨us, h1, h2⟩ := hv; exact ⟨us, h1, under0s hfr hph hUA h h2⟩
  | d x => exact under0 hfr hph hUA rfl hv
  | nils => exact under0 hfr hph hUA rfl hv
  | nilp => exact under0 hfr hph hUA rfl hv
  | nilfn => exact under0 hfr hph hUA rfl hv
  | own t l => exact under0 hfr hph hUA h hv
  | ptr b o => exact under0 hfr hph hUA h hv
  | fresh => simp [V.under] at h
  | fbox => simp [V.under] at h
  | tup => simp [V.under] at h
  | dead => simp [V.under] at h
theorem unders_rep {n : Nat} {gA : G} {U UA : Nat → Prop} (hfr : gA.fr = g.fr) (hph : ∀ t, t < n → gA.ph t = g.ph t ∧ gA.vt t = g.vt t) (hUA : ∀ t, t < n → UA t) : ∀ {vs : List V} {us : List Value}, vs.all (V.under n) = true → RepVs g w U vs us → RepVs gA w UA vs us
  | [], _, _, h => h
  | v :: r, _, ha, h => by
    obtain ⟨u, s, rfl, h2, h3⟩ := h
    simp only [List.all_cons, Bool.and_eq_true] at ha
    exact ⟨u, s, rfl, under_rep hfr hph hUA ha.1 h2, unders_rep hfr hph hUA ha.2 h3⟩

theorem boxesBelow_spec {n : Nat} : ∀ {l b : List (Nat × Ob)}, boxesBelow n l = some b → ∀ t o, aget t b = some o → t < n ∧ aget t l = some o ∧ (∀ cs, o = .box cs → cs.all (V.under n) = true)
  | [], b, h, t, o, ht => by simp [boxesBelow] at h; subst h; simp [aget] at ht
  | (k, .box cs) :: r, b, h, t, o, ht => by
    simp only [boxesBelow] at h
    split at h
    · rename_i l hl
      split at h
      · rename_i hk
        split at h
        · rename_i hcs
          simp at h; subst h
          simp only [aget] at ht
          split at ht
          · rename_i e; subst e
            simp at ht; subst ht
            exact ⟨hk, by simp [aget], fun cs' e => by cases e; exact hcs⟩
          · rename_i e
            obtain ⟨h1, h2, h3⟩ := boxesBelow_spec hl t o ht
            exact ⟨h1, by simp [aget, e, h2], h3⟩
        · simp at h
      · rename_i hk
        simp at h; subst h
        obtain ⟨h1, h2, h3⟩ := boxesBelow_spec hl t o ht
        exact ⟨h1, by rw [aget, if_neg (fun e : k = t => hk (e ▸ h1))]; exact h2, h3⟩
    · simp at h
  | (k, .cbox cs) :: r, b, h, t, o, ht => by
    simp only [boxesBelow] at h
    split at h
    · rename_i l hl
      split at h
      · rename_i hk
        simp at h; subst h
        simp only [aget] at ht
        split at ht
        · rename_i e; subst e
          simp at ht; subst ht
          exact ⟨hk, by simp [aget], fun cs' e => by cases e⟩
        · rename_i e
          obtain ⟨h1, h2, h3⟩ := boxesBelow_spec hl t o ht
          exact ⟨h1, by simp [aget, e, h2], h3⟩
      · rename_i hk
        simp at h; subst h
        obtain ⟨h1, h2, h3⟩ := boxesBelow_spec hl t o ht
        exact ⟨h1, by rw [aget, if_neg (fun e : k = t => hk (e ▸ h1))]; exact h2, h3⟩
    · simp at h
  | (k, .vec com e sz len cs) :: r, b, h, t, o, ht => by
    simp only [boxesBelow] at h
    split at h
    · rename_i l hl
      split at h
      · rename_i hk
        simp at h; subst h
        simp only [aget] at ht
        split at ht
        · rename_i e; subst e
          simp at ht; subst ht
          exact ⟨hk, by simp [aget], fun cs' e => by cases e⟩
        · rename_i e
          obtain ⟨h1, h2, h3⟩ := boxesBelow_spec hl t o ht
          exact ⟨h1, by simp [aget, e, h2], h3⟩
      · rename_i hk
        simp at h; subst h
        obtain ⟨h1, h2, h3⟩ := boxesBelow_spec hl t o ht
        exact ⟨h1, by rw [aget, if_neg (fun e : k = t => hk (e ▸ h1))]; exact h2, h3⟩
    · simp at h

theorem aget_append {α : Type} (k : Nat) (x : α) : ∀ (l : List (Nat × α)) (t : Nat), aget k l = none → aget t (l ++ [(k, x)]) = if t = k then some x else aget t l
  | [], t, _ => by simp only [List.nil_append, aget]; by_cases h : k = t <;> simp [h, eq_comm]
  | (n, y) :: r, t, h => by
    simp only [aget] at h
    split at h
    · cases h
    · rename_i hn
      simp only [List.cons_append, aget]
      rw [aget_append k x r t h]
      by_cases e : n = t
      · subst e; simp [hn]
      · simp [e]
theorem get_append (sl : List (Nat × V)) (ob : List (Nat × Ob)) (nx : Nat) (s : Nat) (v : V) (t : Nat) : St.get ⟨sl ++ [(s, v)], ob, nx⟩ t = St.get ⟨sl, ob, nx⟩ t ∨ (t = s ∧ St.get ⟨sl ++ [(s, v)], ob, nx⟩ t = v) := by
  unfold St.get
  induction sl with
  | nil =>
    simp only [List.nil_append, aget]
    by_cases h : s = t
    · subst h; right; simp
    · left; simp [h]
  | cons x r ih =>
    obtain ⟨k, y⟩ := x
    simp only [List.cons_append, aget]
    by_cases h : k = t
    · left; simp [h]
    · simpa [h] using ih

/-- What is known while a state is turned into its normal form. -/
structure R (n nt N : Nat) (a : Act) (g0 : G) (ob0 : Gt) (g : G) (w : World) (st : St) (gA : G) (acc : St) (UA : Nat → Prop) : Prop where
  inv : Inv g w st.obf (below N)
  slot : ∀ s, RepV g w (below N) (st.get s) (a.tmps.getD s undef)
  sub : ∀ t o, st.obf t = some o → ob0 t = some o
  gph : g.ph = g0.ph
  gvt : g.vt = g0.vt
  ext : Ext g0.fr w g.fr w
  gfr : ∀ b, (∀ t o, ob0 t = some o → Solid g0 t o → g0.ph t ≠ b) → g.fr b = g0.fr b
  fr : gA.fr = g.fr
  ph : ∀ t, t < n → gA.ph t = g.ph t ∧ gA.vt t = g.vt t
  used : ∀ t, t < n → UA t
  used2 : ∀ t, UA t → n ≤ t → (acc.obf t).isSome = true
  nx : acc.nx = n + 2048
  usedN : ∀ t, UA t → t < n + 2048
  invA : Inv gA w acc.obf UA
  slotA : ∀ s, RepV gA w UA (acc.get s) (a.tmps.getD s undef)
  apart : ∀ t o t' o', acc.obf t = some o → n ≤ t → Solid gA t o → st.obf t' = some o' → Solid g t' o' → gA.ph t ≠ g.ph t'
  orig : ∀ t o, acc.obf t = some o → Solid gA t o → ∃ t0 o0, ob0 t0 = some o0 ∧ Solid g0 t0 o0 ∧ g0.ph t0 = gA.ph t
  low : ∀ t o, acc.obf t = some o → t < n → st.obf t = some o

theorem solid_eq {g g' : G} {t t' : Nat} {o : Ob} (h1 : g'.ph t' = g.ph t) (h2 : g'.vt t' = g.vt t) : Solid g' t' o ↔ Solid g t o := by
  cases o <;> simp [Solid, h1, h2]
theorem vecRep_eq {g g' : G} {t t' : Nat} {com : Bool} {e : TypeId} {sz len : Nat} {cs : List D} (h1 : g'.ph t' = g.ph t) (h2 : g'.vt t' = g.vt t) (h3 : g'.fr = g.fr) : VecRep g' w t' com e sz len cs ↔ VecRep g w t com e sz len cs := by
  simp only [VecRep, h1, h2, h3]

/-- An object comes to the normal form under a new name. -/
theorem R.add {n nt N : Nat} {a : Act} {g0 : G} {ob0 : Gt} {st : St} {gA : G} {acc : St} {UA : Nat → Prop} (h : R n nt N a g0 ob0 g w st gA acc UA) {s len : Nat} {com : Bool} {e : TypeId} {sz : Nat} {cs : List D} (hs : s < 2048) (hfree : aget (n + s) acc.ob = none)
    (u : Value) (b : Nat) (st' : St) (hst : ∀ t o, st'.obf t = some o → st.obf t = some o) (hst2 : ∀ t o, (aget t acc.ob).isSome = true → t < n → st.obf t = some o → st'.obf t = some o) (hsl : st'.sl = st.sl) (hu : u = a.tmps.getD s undef) (hus : ∃ x c, u = .slice x len c)
    (hrep : VecRep ⟨g.fr, fun _ => b, fun _ => u⟩ w (n + s) com e sz len cs)
    (hsolid : Solid ⟨g.fr, fun _ => b, fun _ => u⟩ (n + s) (.vec com e sz len cs) → (∃ t o, st.obf t = some o ∧ (n ≤ t ∨ aget t acc.ob = none) ∧ Solid g t o ∧ g.ph t = b ∧ st'.obf t = none)) :
    ∃ gA' UA', R n nt N a g0 ob0 g w st' gA' { acc with sl := acc.sl ++ [(s, .own (n + s) len)], ob := acc.ob ++ [(n + s, .vec com e sz len cs)] } UA' := by
  let gA' : G := ⟨gA.fr, fun t => if t = n + s then b else gA.ph t, fun t => if t = n + s then u else gA.vt t⟩
  have hnot : ¬ UA (n + s) := fun hU => by
    have := h.used2 _ hU (by omega)
    simp [St.obf, hfree] at this
  have hob : ∀ t, St.obf { acc with sl := acc.sl ++ [(s, .own (n + s) len)], ob := acc.ob ++ [(n + s, .vec com e sz len cs)] } t = if t = n + s then some (.vec com e sz len cs) else acc.obf t := fun t => aget_append _ _ _ _ hfree
  have hle : Le gA w UA gA' w (fun t => UA t ∨ t = n + s) := ⟨.refl _ _, fun t ht => if_neg fun e : t = n + s => hnot (e ▸ ht), fun t ht => if_neg fun e : t = n + s => hnot (e ▸ ht), fun t ht => .inl ht⟩
  have hph : gA'.ph (n + s) = b := if_pos rfl
  have hvt : gA'.vt (n + s) = u := if_pos rfl
  have hrep' : VecRep gA' w (n + s) com e sz len cs := (vecRep_eq (g := ⟨g.fr, fun _ => b, fun _ => u⟩) hph hvt h.fr).2 hrep
  have hsol' : Solid gA' (n + s) (.vec com e sz len cs) → ∃ t o, st.obf t = some o ∧ (n ≤ t ∨ aget t acc.ob = none) ∧ Solid g t o ∧ g.ph t = b ∧ st'.obf t = none := fun hh => hsolid ((solid_eq (g := ⟨g.fr, fun _ => b, fun _ => u⟩) hph hvt).1 hh)
  have hold : ∀ t o, acc.obf t = some o → gA'.ph t = gA.ph t ∧ (Solid gA' t o ↔ Solid gA t o) ∧ t ≠ n + s := fun t o ht => by
    have hU := (h.invA.rep t o ht).1
    exact ⟨hle.ph t hU, Solid.kept hle hU, fun e => hnot (e ▸ hU)⟩
  -- an old object of the form's lies elsewhere
  have hapart : ∀ t o, acc.obf t = some o → Solid gA t o → Solid gA' (n + s) (.vec com e sz len cs) → gA.ph t ≠ b := fun t o ht hs1 hs2 => by
    obtain ⟨t', o', k1, k2, k3, k4, _⟩ := hsol' hs2
    rw [← k4]
    by_cases hn : n ≤ t
    · exact h.apart t o t' o' ht hn hs1 k1 k3
    · have hlow := h.low t o ht (by omega)
      have := h.ph t (by omega)
      rw [this.1]
      have hne : t ≠ t' := fun e => by
        rcases k2 with k2 | k2
        · omega
        · rw [← e] at k2; unfold St.obf at ht; rw [k2] at ht; cases ht
      exact h.inv.apart t o t' o' hlow k1 hne ((solid_eq this.1 this.2).1 hs1) k3
  refine ⟨gA', fun t => UA t ∨ t = n + s, ?_⟩
  refine {
    inv := h.inv.sub hst
    slot := fun k => by
      have : st'.get k = st.get k := by unfold St.get; rw [hsl]
      rw [this]; exact h.slot k
    sub := fun t o ht => h.sub t o (hst t o ht)
    gph := h.gph
    gvt := h.gvt
    ext := h.ext
    gfr := h.gfr
    fr := h.fr
    ph := fun t ht => by
      obtain ⟨k1, k2⟩ := h.ph t ht
      exact ⟨(hle.ph t (h.used t ht)).trans k1, (hle.vt t (h.used t ht)).trans k2⟩
    used := fun t ht => .inl (h.used t ht)
    used2 := fun t ht hn => by
      rw [hob]
      by_cases e' : t = n + s
      · simp [e']
      · simp only [if_neg e']
        exact h.used2 t (ht.resolve_right e') hn
    nx := h.nx
    usedN := fun t ht => by
      rcases ht with ht | ht
      · exact h.usedN t ht
      · omega
    invA := ?_
    slotA := fun k => ?_
    apart := fun t o t' o' ht hn hs1 ht' hs2 => ?_
    orig := fun t o ht hs1 => ?_
    low := fun t o ht hn => ?_ }
  · refine ⟨fun t o ht => ?_, fun t o t' o' ht ht' hne hs1 hs2 => ?_⟩
    · rw [hob] at ht
      by_cases e' : t = n + s
      · subst e'; simp at ht; subst ht
        exact ⟨.inr rfl, hrep'⟩
      · rw [if_neg e'] at ht
        have := h.invA.rep t o ht
        exact ⟨.inl this.1, ObRep.kept hle this.1 (fun _ => ⟨rfl, rfl⟩) this.2⟩
    · rw [hob] at ht ht'
      by_cases e1 : t = n + s
      · subst e1
        simp at ht; subst ht
        have e2 : t' ≠ n + s := fun e => hne e.symm
        rw [if_neg e2] at ht'
        obtain ⟨k1, k2, _⟩ := hold t' o' ht'
        rw [hph, k1]
        exact (hapart t' o' ht' (k2.1 hs2) hs1).symm
      · rw [if_neg e1] at ht
        obtain ⟨k1, k2, _⟩ := hold t o ht
        by_cases e2 : t' = n + s
        · subst e2
          simp at ht'; subst ht'
          rw [hph, k1]
          exact hapart t o ht (k2.1 hs1) hs2
        · rw [if_neg e2] at ht'
          obtain ⟨k3, k4, _⟩ := hold t' o' ht'
          rw [k1, k3]
          exact h.invA.apart t o t' o' ht ht' hne (k2.1 hs1) (k4.1 hs2)
  · rcases get_append acc.sl (acc.ob ++ [(n + s, .vec com e sz len cs)]) acc.nx s (.own (n + s) len) k with hk | ⟨hk1, hk2⟩
    · have : St.get { acc with sl := acc.sl ++ [(s, .own (n + s) len)], ob := acc.ob ++ [(n + s, .vec com e sz len cs)] } k = acc.get k := hk
      rw [this]
      exact RepV.mono hle _ _ (h.slotA k)
    · have : St.get { acc with sl := acc.sl ++ [(s, .own (n + s) len)], ob := acc.ob ++ [(n + s, .vec com e sz len cs)] } k = .own (n + s) len := hk2
      rw [this, hk1, ← hu]
      exact ⟨.inr rfl, hvt.symm, hus⟩
  · rw [hob] at ht
    by_cases e1 : t = n + s
    · subst e1
      simp at ht; subst ht
      obtain ⟨t2, o2, k1, k2, k3, k4, k5⟩ := hsol' hs1
      rw [hph, ← k4]
      have hne : t2 ≠ t' := fun e => by rw [e] at k5; rw [k5] at ht'; cases ht'
      exact h.inv.apart t2 o2 t' o' k1 (hst t' o' ht') hne k3 hs2
    · rw [if_neg e1] at ht
      obtain ⟨k1, k2, _⟩ := hold t o ht
      rw [k1]
      exact h.apart t o t' o' ht hn (k2.1 hs1) (hst t' o' ht') hs2
  · rw [hob] at ht
    by_cases e1 : t = n + s
    · subst e1
      simp at ht; subst ht
      obtain ⟨t2, o2, k1, k2, k3, k4, k5⟩ := hsol' hs1
      exact ⟨t2, o2, h.sub t2 o2 k1, (solid_eq (by rw [h.gph]) (by rw [h.gvt])).1 k3, by rw [hph, ← k4, h.gph]⟩
    · rw [if_neg e1] at ht
      obtain ⟨k1, k2, _⟩ := hold t o ht
      rw [k1]
      exact h.orig t o ht (k2.1 hs1)
  · rw [hob] at ht
    rw [if_neg (by omega)] at ht
    exact hst2 t o (by unfold St.obf at ht; rw [ht]; rfl) hn (h.low t o ht hn)

theorem R.keep {n nt N : Nat} {a : Act} {g0 : G} {ob0 : Gt} {st : St} {gA : G} {acc : St} {UA : Nat → Prop} (h : R n nt N a g0 ob0 g w st gA acc UA) {s : Nat} {v : V} (hv : RepV gA w UA v (a.tmps.getD s undef)) :
    R n nt N a g0 ob0 g w st gA { acc with sl := acc.sl ++ [(s, v)] } UA :=
  { inv := h.inv, slot := h.slot, sub := h.sub, gph := h.gph, gvt := h.gvt, ext := h.ext, gfr := h.gfr, fr := h.fr, ph := h.ph, used := h.used, used2 := h.used2, nx := h.nx, usedN := h.usedN, invA := h.invA, apart := h.apart, orig := h.orig, low := h.low
    slotA := fun k => by
      rcases get_append acc.sl acc.ob acc.nx s v k with hk | ⟨hk1, hk2⟩
      · have : St.get { acc with sl := acc.sl ++ [(s, v)] } k = acc.get k := hk
        rw [this]; exact h.slotA k
      · have : St.get { acc with sl := acc.sl ++ [(s, v)] } k = v := hk2
        rw [this, hk1]; exact hv }

theorem obf_adel (st : St) (t : Nat) (k : Nat) : St.obf { st with ob := adel t st.ob } k = if k = t then none else st.obf k := aget_adel t st.ob k

theorem normGo_sound {n nt N : Nat} {a : Act} {g0 : G} {ob0 : Gt} : ∀ (ds : List Dir) (st acc st0 : St) (g gA : G) (UA : Nat → Prop), R n nt N a g0 ob0 g w st gA acc UA → normGo n ds st acc = some st0 →
    ∃ g' gA' st' UA', R n nt N a g0 ob0 g' w st' gA' st0 UA'
  | [], st, acc, st0, g, gA, UA, h, he => by simp [normGo] at he; subst he; exact ⟨g, gA, st, UA, h⟩
  | .keep s :: r, st, acc, st0, g, gA, UA, h, he => by
    simp only [normGo] at he
    split at he
    · rename_i hu
      exact normGo_sound r st _ st0 g gA UA (h.keep (under_rep h.fr h.ph h.used hu (h.slot s))) he
    · simp at he
  | .own s com e sz :: r, st, acc, st0, g, gA, UA, h, he => by
    simp only [normGo] at he
    split at he
    · rename_i hs
      split at he
      · rename_i hv
        split at he
        · rename_i hc
          have hsl := h.slot s
          rw [hv] at hsl
          obtain ⟨x, hx⟩ := hsl
          obtain ⟨gA', UA', h'⟩ := h.add hs hc.2 (com := com) (e := e) (sz := sz) (len := 0) (cs := []) (a.tmps.getD s undef) 0 st (fun _ _ h => h) (fun _ _ _ _ h => h) rfl rfl ⟨x, 0, hx⟩
            ⟨⟨by simp, by simp⟩, hc.1, .inl ⟨x, hx, rfl⟩⟩ (fun hh => by
              obtain ⟨l, c, s1, s2⟩ := hh
              rw [hx] at s1; simp at s1; omega)
          exact normGo_sound r st _ st0 g gA' UA' h' he
        · simp at he
      · rename_i t len hv
        split at he
        · rename_i com' e' sz' l cs ho
          split at he
          · rename_i hc
            obtain ⟨rfl, rfl, rfl, rfl, hnt, hfree⟩ := hc
            have hsl := h.slot s
            rw [hv] at hsl
            obtain ⟨_, hx, x, c, hxe⟩ := hsl
            have hrep := (h.inv.rep t _ ho).2
            obtain ⟨gA', UA', h'⟩ := h.add hs hfree (com := com') (e := e') (sz := sz') (len := l) (cs := cs) (a.tmps.getD s undef) (g.ph t) { st with ob := adel t st.ob }
              (fun k o hk => by rw [obf_adel] at hk; split at hk; cases hk; exact hk) (fun k o hks hk ho' => by
                rw [obf_adel, if_neg (fun e => by
                  rcases hnt with hnt | hnt
                  · omega
                  · rw [e, hnt] at hks; cases hks)]; exact ho') rfl rfl ⟨x, c, hxe⟩
              ((vecRep_eq (g := g) (g' := ⟨g.fr, fun _ => g.ph t, fun _ => a.tmps.getD s undef⟩) (t := t) rfl hx rfl).2 hrep) (fun hh => ⟨t, _, ho, hnt, (solid_eq (g := g) (g' := ⟨g.fr, fun _ => g.ph t, fun _ => a.tmps.getD s undef⟩) (t := t) rfl hx).1 hh, rfl, by rw [obf_adel]; simp⟩)
            exact normGo_sound r _ _ st0 g gA' UA' h' he
          · simp at he
        · simp at he
      · simp at he
    · simp at he

theorem adelAll_some {α : Type} {t : Nat} {o : α} : ∀ (ts : List Nat) (l : List (Nat × α)), aget t (adelAll ts l) = some o → aget t l = some o
  | [], _, h => h
  | k :: r, l, h => by
    have := adelAll_some r _ h
    rw [aget_adel] at this
    split at this
    · cases this
    · exact this
/-- THE NORMAL FORM stands for what the state stood for. -/
theorem norm_sound {ds : List Dir} {n nt N n0 : Nat} {a : Act} {st st0 : St} {g0 : G} {w0 : World} {ob0 : Gt} (hn : n0 ≤ n) (hs : Sim g w nt a st.get st.obf (below N)) (h : norm n ds st = some st0) (hst : Step g0 w0 ob0 (below n0) g w st.obf (below N)) :
    ∃ g', Sim g' w nt a st0.get st0.obf (below st0.nx) ∧ Step g0 w0 ob0 (below n0) g' w st0.obf (below st0.nx) := by
  unfold norm at h
  split at h
  · rename_i b hb
    have spec : ∀ t o, aget t b = some o → t < n ∧ aget t st.ob = some o ∧ (∀ cs, o = .box cs → cs.all (V.under n) = true) := fun t o ht => by
      obtain ⟨a1, a2, a3⟩ := boxesBelow_spec hb t o ht
      exact ⟨a1, adelAll_some _ _ a2, a3⟩
    have hfr : ∀ t, t < n → g.ph t = g.ph t ∧ g.vt t = g.vt t := fun _ _ => ⟨rfl, rfl⟩
    have h0 : R n nt N a g st.obf g w st g { sl := [], ob := b, nx := n + 2048 } (below n) := {
      inv := hs.inv
      slot := hs.slot
      sub := fun _ _ h => h
      gph := rfl
      gvt := rfl
      ext := .refl _ _
      gfr := fun _ _ => rfl
      fr := rfl
      ph := hfr
      used := fun _ h => h
      used2 := fun t h1 h2 => by unfold below at h1; omega
      nx := rfl
      usedN := fun t h => by unfold below at h; omega
      invA := by
        refine ⟨fun t o ht => ?_, fun t o t' o' ht ht' => hs.inv.apart t o t' o' (spec t o ht).2.1 (spec t' o' ht').2.1⟩
        obtain ⟨h1, h2, h3⟩ := spec t o ht
        refine ⟨h1, ?_⟩
        have hr := (hs.inv.rep t o h2).2
        cases o with
        | box cs =>
          obtain ⟨us, e, k1, k2, k3⟩ := hr
          exact ⟨us, e, k1, unders_rep rfl hfr (fun _ h => h) (h3 cs rfl) k2, k3⟩
        | vec => exact hr
        | cbox => exact hr
      slotA := fun s => by
        have : St.get { sl := [], ob := b, nx := n + 2048 } s = .dead := rfl
        rw [this]; trivial
      apart := fun t o t' o' ht h1 => by have := (spec t o ht).1; omega
      orig := fun t o ht hs' => ⟨t, o, (spec t o ht).2.1, hs', rfl⟩
      low := fun t o ht _ => (spec t o ht).2.1 }
    obtain ⟨g', gA', st', UA', r⟩ := normGo_sound ds _ _ st0 g g _ h0 h
    have hU : ∀ t, UA' t → below st0.nx t := fun t ht => by rw [r.nx]; exact r.usedN t ht
    refine ⟨gA', ⟨hs.defers, hs.size, fun s => RepV.mono (Le.grow hU) _ _ (r.slotA s), r.invA.used hU⟩, ?_⟩
    have hext : Ext g.fr w gA'.fr w := by rw [r.fr]; exact r.ext
    refine {
      le := ⟨hst.le.ext.trans hext, fun t ht => ?_, fun t ht => ?_, fun t ht => ?_⟩
      inv := r.invA.used hU
      size := hst.size
      os := hst.os
      tape := hst.tape
      output := hst.output
      keep := fun b' hb' hno => ?_
      new := fun t o ht hs' => ?_ }
    · have h1 : t < n := Nat.lt_of_lt_of_le ht hn
      rw [(r.ph t h1).1, r.gph]; exact hst.le.ph t ht
    · have h1 : t < n := Nat.lt_of_lt_of_le ht hn
      rw [(r.ph t h1).2, r.gvt]; exact hst.le.vt t ht
    · rw [r.nx]; have h1 : t < n := Nat.lt_of_lt_of_le ht hn; exact Nat.lt_of_lt_of_le h1 (by omega)
    · obtain ⟨e1, e2⟩ := hst.keep b' hb' hno
      refine ⟨e1, ?_⟩
      rw [r.fr, r.gfr b' (fun t o ht hs' he => ?_)]
      · exact e2
      · rcases hst.new t o ht hs' with k | ⟨t0, o0, k1, k2, k3⟩
        · omega
        · exact hno t0 o0 k1 k2 (k3.trans he)
    · obtain ⟨t0, o0, k1, k2, k3⟩ := r.orig t o ht hs'
      rw [← k3]
      exact hst.new t0 o0 k1 k2
  · simp at h
end
end Go.Vk
