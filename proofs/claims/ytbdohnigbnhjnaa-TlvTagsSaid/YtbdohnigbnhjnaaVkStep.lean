/- Steps over objects: what an instruction may do to memory. -/
import Derived.Test.YtbdohnigbnhjnaaVkRep
set_option linter.unusedSimpArgs false
set_option linter.unusedVariables false
set_option linter.unusedSectionVars false
namespace Go.Vk

def updf : Upd → Gt → Gt
  | [], ob => ob
  | (k, o) :: r, ob => updf r (fun t => if t = k then o else ob t)

theorem aget_aset {α : Type} (k : Nat) (x : α) : ∀ (l : List (Nat × α)) (t : Nat), aget t (aset k x l) = if t = k then some x else aget t l
  | [], t => by simp only [aset, aget]; by_cases h : k = t <;> simp [h, eq_comm]
  | (n, y) :: r, t => by
    have ih := aget_aset k x r t
    by_cases h : n = k
    · subst h
      simp only [aset, if_true, aget]
      by_cases h2 : n = t
      · subst h2; simp
      · have : ¬ t = n := fun e => h2 e.symm
        simp [h2, this]
    · simp only [aset, if_neg h, aget]
      by_cases h2 : n = t
      · subst h2; simp [h]
      · simp only [if_neg h2]; exact ih
theorem aget_adel {α : Type} (k : Nat) : ∀ (l : List (Nat × α)) (t : Nat), aget t (adel k l) = if t = k then none else aget t l
  | [], t => by simp [adel, aget]
  | (n, y) :: r, t => by
    have ih := aget_adel k r t
    by_cases h : n = k
    · subst h
      simp only [adel, if_true, aget, ih]
      by_cases h2 : n = t
      · subst h2; simp
      · have : ¬ t = n := fun e => h2 e.symm
        simp [h2, this]
    · simp only [adel, if_neg h, aget]
      by_cases h2 : n = t
      · subst h2; simp [h]
      · simp only [if_neg h2]; exact ih
theorem aget_upd : ∀ (u : Upd) (ob : List (Nat × Ob)), (fun t => aget t (upd u ob)) = updf u (fun t => aget t ob)
  | [], _ => rfl
  | (k, some o) :: r, ob => by
    simp only [upd, updf]
    rw [aget_upd r]
    congr 1
    funext t
    rw [aget_aset]
  | (k, none) :: r, ob => by
    simp only [upd, updf]
    rw [aget_upd r]
    congr 1
    funext t
    rw [aget_adel]

structure Step (g : G) (w : World) (ob : Gt) (U : Nat → Prop) (g' : G) (w' : World) (ob' : Gt) (U' : Nat → Prop) : Prop where
  le : Le g w U g' w' U'
  inv : Inv g' w' ob' U'
  size : w.heap.size ≤ w'.heap.size
  os : w'.os = w.os
  tape : w'.tape = w.tape
  output : w'.output = w.output
  keep : ∀ b, b < w.heap.size → (∀ t o, ob t = some o → Solid g t o → g.ph t ≠ b) → w'.heap[b]? = w.heap[b]? ∧ g'.fr b = g.fr b
  new : ∀ t o, ob' t = some o → Solid g' t o → w.heap.size ≤ g'.ph t ∨ ∃ t0 o0, ob t0 = some o0 ∧ Solid g t0 o0 ∧ g.ph t0 = g'.ph t

theorem Step.trans {g1 g2 g3 : G} {w1 w2 w3 : World} {b1 b2 b3 : Gt} {u1 u2 u3 : Nat → Prop} (h : Step g1 w1 b1 u1 g2 w2 b2 u2) (k : Step g2 w2 b2 u2 g3 w3 b3 u3) : Step g1 w1 b1 u1 g3 w3 b3 u3 where
  le := h.le.trans k.le
  inv := k.inv
  size := Nat.le_trans h.size k.size
  os := k.os.trans h.os
  tape := k.tape.trans h.tape
  output := k.output.trans h.output
  keep := fun b hb hno => by
    obtain ⟨e1, e2⟩ := h.keep b hb hno
    obtain ⟨e3, e4⟩ := k.keep b (Nat.lt_of_lt_of_le hb h.size) (fun t o ht hs he => by
      rcases h.new t o ht hs with h1 | ⟨t0, o0, h1, h2, h3⟩
      · omega
      · exact hno t0 o0 h1 h2 (h3.trans he))
    exact ⟨e3.trans e1, e4.trans e2⟩
  new := fun t o ht hs => by
    rcases k.new t o ht hs with h1 | ⟨t0, o0, h1, h2, h3⟩
    · exact .inl (Nat.le_trans h.size h1)
    · rcases h.new t0 o0 h1 h2 with h4 | ⟨t1, o1, h4, h5, h6⟩
      · exact .inl (by omega)
      · exact .inr ⟨t1, o1, h4, h5, h6.trans h3⟩

theorem ObRep.used {g : G} {w : World} {U U' : Nat → Prop} (h : ∀ t, U t → U' t) {t : Nat} : ∀ {o : Ob}, ObRep g w U t o → ObRep g w U' t o
  | .box _, ⟨us, e, h1, h2, h3⟩ => ⟨us, e, h1, RepVs.mono ⟨.refl _ _, fun _ _ => rfl, fun _ _ => rfl, h⟩ _ _ h2, h3⟩
  | .cbox .., h => h
  | .vec .., h => h
theorem Inv.used {g : G} {w : World} {ob : Gt} {U U' : Nat → Prop} (h : ∀ t, U t → U' t) (hI : Inv g w ob U) : Inv g w ob U' :=
  ⟨fun t o ht => ⟨h t (hI.rep t o ht).1, (hI.rep t o ht).2.used h⟩, hI.apart⟩
theorem Inv.sub {g : G} {w : World} {ob ob' : Gt} {U : Nat → Prop} (h : ∀ t o, ob' t = some o → ob t = some o) (hI : Inv g w ob U) : Inv g w ob' U :=
  ⟨fun t o ht => hI.rep t o (h t o ht), fun t o t' o' ht ht' => hI.apart t o t' o' (h _ _ ht) (h _ _ ht')⟩

theorem ext_drew (fr : Nat → Nat) (w : World) : Ext fr w fr w.drew := fun _ _ _ a b => ⟨a, b⟩
theorem le_drew (g : G) (w : World) (U : Nat → Prop) : Le g w U g w.drew U := ⟨ext_drew _ _, fun _ _ => rfl, fun _ _ => rfl, fun _ h => h⟩
/-- The world is the same but for draws; objects may be forgotten. -/
theorem Step.same {g : G} {w w' : World} {ob ob' : Gt} {U U' : Nat → Prop} (hI : Inv g w ob U) (hw : w' = w ∨ w' = w.drew) (hU : ∀ t, U t → U' t) (ho : ∀ t o, ob' t = some o → ob t = some o) : Step g w ob U g w' ob' U' := by
  have hI' : Inv g w' ob' U' := by
    rcases hw with rfl | rfl
    · exact (hI.sub ho).used hU
    · have := (hI.sub ho).used hU
      refine ⟨fun t o ht => ⟨(this.rep t o ht).1, ?_⟩, this.apart⟩
      have h2 := (this.rep t o ht).2
      cases o with
      | box cs => obtain ⟨us, e, h1, h3, h4⟩ := h2; exact ⟨us, e, h1, RepVs.mono (le_drew g w U') _ _ h3, h4⟩
      | cbox cs => obtain ⟨h0, us, e, h1, h3, h4⟩ := h2; exact ⟨h0, us, e, h1, RepL.mono (ext_drew _ w) _ _ h3, h4⟩
      | vec com e sz len cs =>
        obtain ⟨h3, h4, h5⟩ := h2
        refine ⟨h3, h4, ?_⟩
        rcases h5 with h5 | ⟨cap, cur, us, a1, a2, a3, a4, a5, a6, a7, a8, a9⟩
        · exact .inl h5
        · exact .inr ⟨cap, cur, us, a1, a2, a3, a4, a5, a6, a7, RepL.mono (ext_drew _ w) _ _ a8, a9⟩
  have hext : Ext g.fr w g.fr w' := by rcases hw with rfl | rfl <;> exact fun _ _ _ a b => ⟨a, b⟩
  have hh : w'.heap = w.heap := by rcases hw with rfl | rfl <;> rfl
  exact ⟨⟨hext, fun _ _ => rfl, fun _ _ => rfl, hU⟩, hI', by rw [hh]; exact Nat.le_refl _, by rcases hw with rfl | rfl <;> rfl, by rcases hw with rfl | rfl <;> rfl, by rcases hw with rfl | rfl <;> rfl,
    fun b _ _ => by rw [hh]; exact ⟨rfl, rfl⟩, fun t o ht hs => .inr ⟨t, o, ho t o ht, hs, rfl⟩⟩

theorem Step.used' {g g' : G} {w w' : World} {ob ob' : Gt} {U U' U2 : Nat → Prop} (h : Step g w ob U g' w' ob' U') (hu : ∀ t, U' t → U2 t) : Step g w ob U g' w' ob' U2 :=
  h.trans (.same h.inv (.inl rfl) hu fun _ _ h => h)

/-- What an object is stays what it was where its block stays. -/
theorem ObRep.kept {g g' : G} {w w' : World} {U U' : Nat → Prop} {t : Nat} {o : Ob} (hle : Le g w U g' w' U') (ht : U t)
    (hb : Solid g t o → w'.heap[g.ph t]? = w.heap[g.ph t]? ∧ g'.fr (g.ph t) = g.fr (g.ph t)) (h : ObRep g w U t o) : ObRep g' w' U' t o := by
  have hp := hle.ph t ht
  have hv := hle.vt t ht
  cases o with
  | box cs =>
    obtain ⟨us, e, h1, h2, h3⟩ := h
    obtain ⟨b1, b2⟩ := hb trivial
    exact ⟨us, e, by rw [hp, b1]; exact h1, RepVs.mono hle _ _ h2, by rw [hp, b2]; exact h3⟩
  | cbox cs =>
    obtain ⟨h0, us, e, h1, h2, h3⟩ := h
    obtain ⟨b1, b2⟩ := hb trivial
    exact ⟨h0, us, e, by rw [hp, b1]; exact h1, RepL.mono hle.ext _ _ h2, by rw [hp, b2]; exact h3⟩
  | vec com e sz len cs =>
    obtain ⟨h1, h2, h3⟩ := h
    refine ⟨h1, h2, ?_⟩
    rcases h3 with ⟨a, h3, h4⟩ | ⟨cap, cur, us, a1, a2, a3, a4, a5, a6, a7, a8, a9, a10, a11⟩
    · exact .inl ⟨a, hv.trans h3, h4⟩
    · obtain ⟨b1, b2⟩ := hb ⟨len, cap, a1, a2⟩
      exact .inr ⟨cap, cur, us, by rw [hv, hp]; exact a1, a2, by rw [hp, b1]; exact a3, a4, a5, a6, a7, RepL.mono hle.ext _ _ a8, by rw [hp, b2]; exact a9, by rw [hp, b2]; exact a10, by rw [hp, b2]; exact a11⟩
theorem Solid.kept {g g' : G} {w w' : World} {U U' : Nat → Prop} {t : Nat} {o : Ob} (hle : Le g w U g' w' U') (ht : U t) : Solid g' t o ↔ Solid g t o := by
  cases o with
  | box => exact Iff.rfl
  | cbox => exact Iff.rfl
  | vec => simp only [Solid, hle.ph t ht, hle.vt t ht]
theorem ObRep.lt {g : G} {w : World} {U : Nat → Prop} {t : Nat} {o : Ob} (h : ObRep g w U t o) (hs : Solid g t o) : g.ph t < w.heap.size := by
  cases o with
  | box => obtain ⟨us, e, h1, _⟩ := h; exact (Array.getElem?_eq_some_iff.1 h1).1
  | cbox => obtain ⟨_, us, e, h1, _⟩ := h; exact (Array.getElem?_eq_some_iff.1 h1).1
  | vec =>
    obtain ⟨_, _, h3⟩ := h
    obtain ⟨l, c, s1, s2⟩ := hs
    rcases h3 with ⟨a, h3, h4⟩ | ⟨cap, cur, us, a1, a2, a3, _⟩
    · rw [s1] at h3; simp at h3; omega
    · exact (Array.getElem?_eq_some_iff.1 a3).1

/-- One object changes (or comes, or goes); nothing else does. ob' t = what it is now; its block is new, or was an object's that is no more (or is this one). -/
theorem Step.one {g g' : G} {w w' : World} {ob : Gt} {U U' : Nat → Prop} (id : Nat) (o : Ob) (gone : Nat → Prop) (hI : Inv g w ob U) (hle : Le g w U g' w' U') (hid : U' id)
    (hsize : w.heap.size ≤ w'.heap.size) (hos : w'.os = w.os) (htape : w'.tape = w.tape) (hout : w'.output = w.output)
    (hkeep : ∀ b, b < w.heap.size → (∀ t o, ob t = some o → Solid g t o → (gone t ∨ t = id) → g.ph t ≠ b) → w'.heap[b]? = w.heap[b]? ∧ g'.fr b = g.fr b)
    (ho : ObRep g' w' U' id o)
    (hnew : Solid g' id o → w.heap.size ≤ g'.ph id ∨ ∃ t0 o0, ob t0 = some o0 ∧ Solid g t0 o0 ∧ g.ph t0 = g'.ph id ∧ (gone t0 ∨ t0 = id))
    (ob' : Gt) (hob : ∀ t o', ob' t = some o' → (t = id ∧ o' = o) ∨ (t ≠ id ∧ ¬ gone t ∧ ob t = some o')) : Step g w ob U g' w' ob' U' where
  le := hle
  size := hsize
  os := hos
  tape := htape
  output := hout
  keep := fun b hb hno => hkeep b hb fun t o ht hs _ => hno t o ht hs
  new := fun t o' ht hs => by
    rcases hob t o' ht with ⟨rfl, rfl⟩ | ⟨_, _, h3⟩
    · rcases hnew hs with h | ⟨t0, o0, h1, h2, h3, _⟩
      · exact .inl h
      · exact .inr ⟨t0, o0, h1, h2, h3⟩
    · have hU := (hI.rep t o' h3).1
      exact .inr ⟨t, o', h3, (Solid.kept hle hU).1 hs, (hle.ph t hU).symm⟩
  inv := by
    have hold : ∀ t o', t ≠ id → ¬ gone t → ob t = some o' → ObRep g' w' U' t o' := fun t o' h1 h2 h3 => by
      have hr := hI.rep t o' h3
      refine ObRep.kept hle hr.1 (fun hs => hkeep _ (hr.2.lt hs) fun t2 o2 ht2 hs2 hg he => ?_) hr.2
      by_cases e : t2 = t
      · subst e; rcases hg with hg | hg
        · exact h2 hg
        · exact h1 hg
      · exact hI.apart t2 o2 t o' ht2 h3 e hs2 hs he
    have hside : ∀ t o', t ≠ id → ¬ gone t → ob t = some o' → Solid g' t o' → Solid g' id o → g'.ph t ≠ g'.ph id := fun t o' h1 h2 h3 hs hsi he => by
      have hr := hI.rep t o' h3
      have hs' := (Solid.kept hle hr.1).1 hs
      have hlt := hr.2.lt hs'
      rw [hle.ph t hr.1] at he
      rcases hnew hsi with h | ⟨t0, o0, a1, a2, a3, a4⟩
      · omega
      · by_cases e : t = t0
        · subst e; rcases a4 with a4 | a4
          · exact h2 a4
          · exact h1 a4
        · exact hI.apart t o' t0 o0 h3 a1 e hs' a2 (he.trans a3.symm)
    refine ⟨fun t o' ht => ?_, fun t o1 t' o2 ht ht' hne hs hs' => ?_⟩
    · rcases hob t o' ht with ⟨rfl, rfl⟩ | ⟨h1, h2, h3⟩
      · exact ⟨hid, ho⟩
      · exact ⟨hle.used t (hI.rep t o' h3).1, hold t o' h1 h2 h3⟩
    · rcases hob t o1 ht with ⟨rfl, rfl⟩ | ⟨h1, h2, h3⟩
      · rcases hob t' o2 ht' with ⟨rfl, rfl⟩ | ⟨k1, k2, k3⟩
        · exact absurd rfl hne
        · exact (hside t' o2 k1 k2 k3 hs' hs).symm
      · rcases hob t' o2 ht' with ⟨rfl, rfl⟩ | ⟨k1, k2, k3⟩
        · exact hside t o1 h1 h2 h3 hs hs'
        · have r1 := hI.rep t o1 h3
          have r2 := hI.rep t' o2 k3
          rw [hle.ph t r1.1, hle.ph t' r2.1]
          exact hI.apart t o1 t' o2 h3 k3 hne ((Solid.kept hle r1.1).1 hs) ((Solid.kept hle r2.1).1 hs')

/-- A commit: the elements of an owned slice are settled. -/
theorem Step.commit {g : G} {w : World} {ob : Gt} {U : Nat → Prop} {t : Nat} {com : Bool} {e : TypeId} {sz len : Nat} {cs : List D} (hI : Inv g w ob U) (ht : ob t = some (.vec com e sz len cs)) :
    ∃ g', Step g w ob U g' w (fun k => if k = t then some (.vec true e sz len cs) else ob k) U ∧ g'.ph = g.ph ∧ g'.vt = g.vt ∧
      ∀ u, (∃ a c, u = .slice a len c) → u = g.vt t → RepD g'.fr w (.slice len cs) u := by
  obtain ⟨hU, h1, h2, h3⟩ := hI.rep t _ ht
  rcases h3 with ⟨a, h3, h4⟩ | ⟨cap, cur, us, a1, a2, a3, a4, a5, a6, a7, a8, a9, a10, a11⟩
  · refine ⟨g, ?_, rfl, rfl, ?_⟩
    · refine Step.one t (.vec true e sz len cs) (fun _ => False) hI (.refl _ _ _) hU (Nat.le_refl _) rfl rfl rfl (fun b _ _ => ⟨rfl, rfl⟩) ⟨h1, h2, .inl ⟨a, h3, h4⟩⟩ ?_ _ ?_
      · rintro ⟨l, c, s1, s2⟩
        rw [h3] at s1; simp at s1; omega
      · intro k o' hk
        by_cases e' : k = t
        · subst e'; simp at hk; exact .inl ⟨rfl, hk.symm⟩
        · simp [e'] at hk; exact .inr ⟨e', fun h => h, hk⟩
    · rintro u - rfl
      subst h4
      have : cs = [] := List.eq_nil_of_length_eq_zero (by simpa using h1.1)
      subst this
      rw [h3]
      exact ⟨a, 0, rfl, ⟨Nat.le_refl _, by simp⟩, .inl rfl⟩
  · let g' : G := { g with fr := fun b => if b = g.ph t then cs.length else g.fr b }
    have hext : Ext g.fr w g'.fr w := fun b o u h h' => by
      refine ⟨?_, h'⟩
      show o < if b = g.ph t then cs.length else g.fr b
      split
      · rename_i hb; subst hb; omega
      · exact h
    have hus : us.length = cs.length := repL_length a8
    refine ⟨g', ?_, rfl, rfl, ?_⟩
    · refine Step.one t (.vec true e sz len cs) (fun _ => False) hI ⟨hext, fun _ _ => rfl, fun _ _ => rfl, fun _ h => h⟩ hU (Nat.le_refl _) rfl rfl rfl (fun b _ hno => ⟨rfl, ?_⟩)
        ⟨h1, h2, .inr ⟨cap, cur, us, a1, a2, a3, a4, a5, a6, a7, RepL.mono hext _ _ a8, fun _ => ?_, (fun h => by cases h), ?_⟩⟩ ?_ _ ?_
      · have : g.ph t ≠ b := hno t _ ht ⟨len, cap, a1, a2⟩ (.inr rfl)
        show (if b = g.ph t then cs.length else g.fr b) = _
        rw [if_neg (fun h => this h.symm)]
      · show cs.length ≤ if g.ph t = g.ph t then _ else _
        simp
      · show (if g.ph t = g.ph t then _ else _) ≤ _
        simp
      · intro _
        exact .inr ⟨t, _, ht, ⟨len, cap, a1, a2⟩, rfl, .inr rfl⟩
      · intro k o' hk
        by_cases e' : k = t
        · subst e'; simp at hk; exact .inl ⟨rfl, hk.symm⟩
        · simp [e'] at hk; exact .inr ⟨e', fun h => h, hk⟩
    · rintro u - rfl
      rw [a1]
      refine ⟨_, cap, rfl, ⟨a4, h1.2⟩, .inr ⟨g.ph t, 0, rfl, repAt_of_vals (RepL.mono hext _ _ a8) ?_ ?_⟩⟩
      · intro i u hu
        rw [Nat.zero_add, cell_of_row w (g.ph t) i cur e (0, 0) a3]
        rw [← a7, List.getElem?_take] at hu
        split at hu
        · simpa using hu
        · cases hu
      · show 0 + cs.length ≤ if g.ph t = g.ph t then _ else _
        simp

/-- A box of data is settled. -/
theorem Step.commitBox {g : G} {w : World} {ob : Gt} {U : Nat → Prop} {t : Nat} {cs : List D} {us : Array Value} {e : TypeId} {o : Ob} (hI : Inv g w ob U) (ht : ob t = some o) (hso : Solid g t o) (hc : ∀ x ∈ cs, V.cellOk (.d x) = true)
    (hb : w.heap[g.ph t]? = some (.cells us e (0, 0))) (hr : RepL g.fr w cs us.toList) (hf : g.fr (g.ph t) ≤ cs.length) :
    ∃ g', Step g w ob U g' w (fun k => if k = t then some (.cbox cs) else ob k) U ∧ g'.ph = g.ph ∧ g'.vt = g.vt ∧ ∀ off, off ≤ cs.length → RepV g' w U (.dptr (cs.drop off)) (.pointer (some ⟨g.ph t, off, none⟩)) := by
  have hU := (hI.rep t o ht).1
  let g' : G := { g with fr := fun b => if b = g.ph t then cs.length else g.fr b }
  have hext : Ext g.fr w g'.fr w := fun b o u h h' => by
    refine ⟨?_, h'⟩
    show o < if b = g.ph t then cs.length else g.fr b
    split
    · rename_i hb; subst hb; omega
    · exact h
  have hg : g'.fr (g.ph t) = cs.length := by show (if g.ph t = g.ph t then _ else _) = _; simp
  refine ⟨g', ?_, rfl, rfl, fun off hoff => ?_⟩
  · refine Step.one t (.cbox cs) (fun _ => False) hI ⟨hext, fun _ _ => rfl, fun _ _ => rfl, fun _ h => h⟩ hU (Nat.le_refl _) rfl rfl rfl (fun b _ hno => ⟨rfl, ?_⟩)
      ⟨hc, us, e, hb, RepL.mono hext _ _ hr, by show _ ≤ g'.fr (g.ph t); rw [hg]; exact Nat.le_refl _⟩ ?_ _ ?_
    · have : g.ph t ≠ b := hno t _ ht hso (.inr rfl)
      show (if b = g.ph t then cs.length else g.fr b) = _
      rw [if_neg (fun h => this h.symm)]
    · intro _; exact .inr ⟨t, _, ht, hso, rfl, .inr rfl⟩
    · intro k o' hk
      by_cases e' : k = t
      · subst e'; simp at hk; exact .inl ⟨rfl, hk.symm⟩
      · simp [e'] at hk; exact .inr ⟨e', fun h => h, hk⟩
  · refine ⟨g.ph t, off, rfl, ?_⟩
    have hrep : RepAt g'.fr w cs (g.ph t) 0 := repAt_of_vals (RepL.mono hext _ _ hr) (fun i u hu => by
      rw [Nat.zero_add, cell_of_row w (g.ph t) i us e (0, 0) hb]
      simpa using hu) (by rw [hg]; omega)
    have := repAt_drop off hrep hoff
    simpa using this
end Go.Vk
