/- Each instruction's ideal outcome is what the machine does: part one. -/
import Derived.Test.YtbdohnigbnhjnaaVkComp
import Derived.Great.BuildSlice
set_option linter.unusedSimpArgs false
set_option linter.unusedVariables false
set_option linter.unusedSectionVars false
namespace Go.Vk

section consts
variable {g : G} {w : World} {U : Nat → Prop}
theorem repV_constC {v : Value} {x : V} (h : constC v = some x) : RepV g w U x v := by
  unfold constC at h
  split at h <;> simp at h <;> subst h <;> simp [RepV, RepD]
theorem repVs_constCs : ∀ {vs : List Value} {xs : List V}, constCs vs = some xs → RepVs g w U xs vs
  | [], _, h => by simp [constCs] at h; subst h; rfl
  | v :: r, _, h => by
    unfold constCs at h
    split at h
    · rename_i x xs h1 h2
      simp at h; subst h
      exact ⟨v, r, rfl, repV_constC h1, repVs_constCs h2⟩
    · simp at h
theorem repV_constV {v : Value} {x : V} (h : constV v = some x) : RepV g w U x v := by
  unfold constV at h
  split at h
  · rename_i cs
    simp at h
    obtain ⟨xs, h1, rfl⟩ := h
    exact ⟨cs.toList, by simp, repVs_constCs h1⟩
  · exact repV_constC h
theorem repD_data {v : Value} {x : V} {d : D} (h : x.data? = some d) (hv : RepV g w U x v) : RepD g.fr w d v ∧ V.cellOk (.d d) = true := by
  unfold V.data? at h
  split at h
  · simp at h
  · rename_i y hy
    simp at h; subst h
    refine ⟨hv, ?_⟩
    cases y <;> first | rfl | exact absurd rfl (hy _)
  · simp at h; subst h
    obtain ⟨a, rfl⟩ := hv
    exact ⟨⟨a, 0, rfl, ⟨Nat.le_refl _, by simp⟩, .inl rfl⟩, rfl⟩
  · simp at h
theorem repL_datas : ∀ {xs : List V} {ds : List D} {vs : List Value}, datas xs = some ds → RepVs g w U xs vs → RepL g.fr w ds vs ∧ ∀ d ∈ ds, V.cellOk (.d d) = true
  | [], _, _, h, hv => by simp [datas] at h; subst h; exact ⟨hv, by simp⟩
  | x :: r, _, _, h, hv => by
    unfold datas at h
    split at h
    · rename_i d ds h1 h2
      simp at h; subst h
      obtain ⟨u, s, rfl, a1, a2⟩ := hv
      obtain ⟨b1, b2⟩ := repD_data h1 a1
      obtain ⟨c1, c2⟩ := repL_datas h2 a2
      exact ⟨⟨u, s, rfl, b1, c1⟩, by simpa using ⟨b2, c2⟩⟩
    · simp at h
end consts

/-- The outcome: a value that stands for v, and a step. -/
def Good (r : Result Next) (v : V) (g : G) (w : World) (ob : Gt) (U : Nat → Prop) (ob' : Gt) (U' : Nat → Prop) : Prop :=
  ∃ u w' g', (r = .ok (.value u) w' ∨ (r = .ok .skip w' ∧ u = undef)) ∧ RepV g' w' U' v u ∧ Step g w ob U g' w' ob' U'

def fresh8 (U : Nat → Prop) (id : Nat) : Nat → Prop := fun t => U t ∨ (id ≤ t ∧ t < id + 8)
theorem fresh8_mono {U : Nat → Prop} {id : Nat} : ∀ t, U t → fresh8 U id t := fun _ h => .inl h
theorem fresh8_id {U : Nat → Prop} {id : Nat} : fresh8 U id id := .inr ⟨Nat.le_refl _, by omega⟩

section
variable {P : Program} {g : G} {w : World} {ob : Gt} {U : Nat → Prop} {id : Nat}

theorem Le.grow {U' : Nat → Prop} (h : ∀ t, U t → U' t) : Le g w U g w U' := ⟨.refl _ _, fun _ _ => rfl, fun _ _ => rfl, h⟩

theorem good_val {r : Result Next} {v : V} {u : Value} (hI : Inv g w ob U) (hr : r = .ok (.value u) w) (hv : RepV g w U v u) : Good r v g w ob U ob (fresh8 U id) :=
  ⟨u, w, g, .inl hr, RepV.mono (Le.grow fresh8_mono) _ _ hv, .same hI (.inl rfl) fresh8_mono fun _ _ h => h⟩

theorem run_v {s : Sem Value} {u : Value} {w' : World} (h : s.run P w = .ok u w') : ((do pure (.value (← s))) : Sem Next).run P w = .ok (.value u) w' := by
  simp [Sem.run_bind, h]
theorem run_u {s : Sem Unit} {w' : World} (h : s.run P w = .ok () w') : ((do s; pure .skip) : Sem Next).run P w = .ok .skip w' := by
  simp [Sem.run_bind, h]

/-! data out of values -/
theorem toD1_sound {v : V} {x : D} {u : Upd} {val : Value} (h : v.toD1 ob = some (x, u)) (hv : RepV g w U v val) (hI : Inv g w ob U) :
    V.cellOk (.d x) = true ∧ ∃ g', Step g w ob U g' w (updf u ob) U ∧ RepD g'.fr w x val := by
  unfold V.toD1 at h
  split at h
  · simp at h
  · rename_i y hy
    simp at h
    obtain ⟨rfl, rfl⟩ := h
    refine ⟨?_, g, .same hI (.inl rfl) (fun _ h => h) fun _ _ h => h, hv⟩
    cases y <;> first | rfl | exact absurd rfl (hy _)
  · simp at h
    obtain ⟨rfl, rfl⟩ := h
    obtain ⟨a, rfl⟩ := hv
    exact ⟨rfl, g, .same hI (.inl rfl) (fun _ h => h) fun _ _ h => h, ⟨a, 0, rfl, ⟨Nat.le_refl _, by simp⟩, .inl rfl⟩⟩
  · rename_i t len
    split at h
    · rename_i com e sz l cs ho
      split at h
      · rename_i hl
        subst hl
        simp at h
        obtain ⟨rfl, rfl⟩ := h
        obtain ⟨hU, hval, a, c, e'⟩ := hv
        obtain ⟨g', hs, h1, h2, h3⟩ := Step.commit hI ho
        exact ⟨rfl, g', hs, h3 val ⟨a, c, e'⟩ hval⟩
      · simp at h
    · simp at h
  · simp at h

def comOb (ob : Gt) (t : Nat) : Gt := fun k => if k = t then (match ob t with | some (.vec _ e sz l cs) => some (.vec true e sz l cs) | o => o) else ob k
theorem toD1_com (t : Nat) (v : V) : v.toD1 (comOb ob t) = v.toD1 ob := by
  cases v <;> try rfl
  case d x => cases x <;> rfl
  case own k len =>
    simp only [V.toD1, comOb]
    by_cases h : k = t
    · subst h
      simp only [if_true]
      cases ob k with
      | none => rfl
      | some o => cases o <;> rfl
    · simp only [if_neg h]
theorem toDs_com (t : Nat) : ∀ (vs : List V), V.toDs (comOb ob t) vs = V.toDs ob vs
  | [] => rfl
  | v :: r => by simp only [V.toDs, toD1_com, toDs_com t r]
theorem toD1_upd {v : V} {x : D} {u : Upd} (h : v.toD1 ob = some (x, u)) : updf u ob = ob ∨ ∃ t, updf u ob = comOb ob t := by
  unfold V.toD1 at h
  split at h
  · simp at h
  · simp at h; exact .inl (by rw [h.2]; rfl)
  · simp at h; exact .inl (by rw [h.2]; rfl)
  · rename_i t len
    split at h
    · rename_i com e sz l cs ho
      split at h
      · simp at h
        refine .inr ⟨t, ?_⟩
        rw [← h.2]
        funext k
        simp only [updf, comOb, ho]
      · simp at h
    · simp at h
  · simp at h
theorem updf_append : ∀ (u u' : Upd) (ob : Gt), updf (u ++ u') ob = updf u' (updf u ob)
  | [], _, _ => rfl
  | (k, o) :: r, u', ob => by simp only [List.cons_append, updf]; exact updf_append r u' _

theorem toDs_sound : ∀ {vs : List V} {xs : List D} {u : Upd} {vals : List Value} {g : G} {ob : Gt}, V.toDs ob vs = some (xs, u) → RepVs g w U vs vals → Inv g w ob U →
    (∀ x ∈ xs, V.cellOk (.d x) = true) ∧ ∃ g', Step g w ob U g' w (updf u ob) U ∧ RepL g'.fr w xs vals
  | [], _, _, _, g, ob, h, hv, hI => by
    simp [V.toDs] at h
    obtain ⟨rfl, rfl⟩ := h
    exact ⟨by simp, g, .same hI (.inl rfl) (fun _ h => h) fun _ _ h => h, hv⟩
  | v :: r, _, _, _, g, ob, h, hv, hI => by
    simp only [V.toDs] at h
    split at h
    · rename_i x u1 h1
      split at h
      · rename_i xs u2 h2
        simp at h
        obtain ⟨rfl, rfl⟩ := h
        obtain ⟨val, vals, rfl, a1, a2⟩ := hv
        obtain ⟨hc, g1, hs1, hr1⟩ := toD1_sound h1 a1 hI
        have h2' : V.toDs (updf u1 ob) r = some (xs, u2) := by
          rcases toD1_upd h1 with e | ⟨t, e⟩
          · rw [e]; exact h2
          · rw [e, toDs_com]; exact h2
        obtain ⟨hc2, g2, hs2, hr2⟩ := toDs_sound h2' (RepVs.mono hs1.le _ _ a2) hs1.inv
        refine ⟨by simpa using ⟨hc, hc2⟩, g2, ?_, val, vals, rfl, RepD.mono hs2.le.ext _ _ hr1, hr2⟩
        rw [updf_append]
        exact hs1.trans hs2
      · simp at h
    · simp at h

/-! splice and the machine's own writing of cells -/
theorem length_splice {α : Type} (cs new : List α) (off : Nat) (h : off + new.length ≤ cs.length) : (splice cs off new).length = cs.length := by
  simp [splice]; omega
theorem getElem?_splice {α : Type} (cs new : List α) (off : Nat) (h : off + new.length ≤ cs.length) (k : Nat) :
    (splice cs off new)[k]? = if off ≤ k ∧ k < off + new.length then new[k - off]? else cs[k]? := by
  have h1 : (cs.take off).length = off := by simp; omega
  unfold splice
  by_cases hk : k < off
  · rw [List.getElem?_append_left (by omega), if_neg (by omega), List.getElem?_take, if_pos hk]
  · rw [List.getElem?_append_right (by omega), h1]
    by_cases hk2 : k < off + new.length
    · rw [if_pos ⟨by omega, hk2⟩, List.getElem?_append_left (by omega)]
    · rw [if_neg (by omega), List.getElem?_append_right (by omega), List.getElem?_drop]
      congr 1
      omega
theorem toList_foldl_set (off : Nat) (l : List Value) (a : Array Value) (h : off + l.length ≤ a.size) :
    (l.zipIdx.foldl (fun (cs : Array Value) (p : Value × Nat) => cs.setIfInBounds (off + p.2) p.1) a).toList = splice a.toList off l := by
  apply List.ext_getElem?
  intro k
  obtain ⟨h1, h2⟩ := Go.Great.foldl_set off l 0 a
  have h3 := h2 k
  simp only [Nat.add_zero] at h3
  rw [getElem?_splice _ _ _ (by simpa using h)]
  simp only [Array.getElem?_toList]
  rw [h3]
  by_cases hk : off ≤ k ∧ k < off + l.length
  · rw [if_pos ⟨hk.1, hk.2, by omega⟩, if_pos hk]
  · rw [if_neg hk, if_neg (fun h => hk ⟨h.1, h.2.1⟩)]
/-- A literal's parts, laid. -/
theorem fill_splice (place : Nat → Option (Nat × Nat)) : ∀ (ps : List (Nat × Value)) (cells r : Array Value) (qs : List (Nat × Nat × List Value)),
    (∀ (k : Nat) (i : Nat) (v : Value), ps[k]? = some (i, v) → ∃ off n, place i = some (off, n) ∧ qs[k]? = some (off, n, v.cells.toList) ∧ v.cells.size = n ∧ off + n ≤ cells.size) → qs.length = ps.length →
    qs.foldl (fun (c : List Value) q => splice c q.1 q.2.2) cells.toList = r.toList → Instr.fill place cells ps = some r
  | [], cells, r, qs, _, hl, h => by
    have : qs = [] := List.eq_nil_of_length_eq_zero (by simpa using hl)
    subst this
    simp only [List.foldl_nil] at h
    simp [Instr.fill, Array.ext' h]
  | (i, v) :: rest, cells, r, qs, hp, hl, h => by
    obtain ⟨off, n, e1, e2, e3, e4⟩ := hp 0 i v rfl
    cases qs with
    | nil => simp at e2
    | cons q qs =>
      simp at e2
      subst e2
      have hc : (decide (v.cells.size ≠ n) || decide (off + v.cells.size > cells.size)) = false := by simp; omega
      have hz : ((v.cells.zipIdx.foldl (fun cs (c, j) => cs.setIfInBounds (off + j) c) cells)).toList = splice cells.toList off v.cells.toList := by
        rw [← toList_foldl_set off v.cells.toList cells (by simp; omega)]
        congr 1
        rw [← Array.foldl_toList, Array.toList_zipIdx]
      simp only [Instr.fill, e1, hc, Bool.false_eq_true, if_false]
      refine fill_splice place rest _ r qs ?_ (by simpa using hl) ?_
      · intro k i' v' hk
        obtain ⟨off', n', a1, a2, a3, a4⟩ := hp (k + 1) i' v' (by simpa using hk)
        refine ⟨off', n', a1, by simpa using a2, a3, ?_⟩
        have : (v.cells.zipIdx.foldl (fun cs (c, j) => cs.setIfInBounds (off + j) c) cells).size = cells.size := by
          rw [← Array.length_toList, hz, length_splice _ _ _ (by simp; omega)]; simp
        exact this.symm ▸ a4
      · rw [hz]; exact h
end
end Go.Vk
