/- Contracts of calls; handing values over. -/
import Derived.Test.YtbdohnigbnhjnaaVkW
set_option linter.unusedSimpArgs false
set_option linter.unusedVariables false
set_option linter.unusedSectionVars false
namespace Go.Vk

/-- An owned slice, in its closed form: its block, if it lies in one. -/
def VecC (fr : Nat → Nat) (w : World) (u : Value) (com : Bool) (e : TypeId) (sz len : Nat) (cs : List D) (bl : List Nat) : Prop :=
  (cs.length = len * sz ∧ ∀ x ∈ cs, V.cellOk (.d x) = true) ∧ 0 < sz ∧
  ((∃ a, u = .slice a 0 0 ∧ len = 0 ∧ bl = []) ∨
   ∃ b cap cur us, u = .slice (some ⟨b, 0, none⟩) len cap ∧ 0 < cap ∧ w.heap[b]? = some (.cells cur e (0, 0)) ∧ len ≤ cap ∧ cap ≤ maxLen ∧ cur.size = cap * sz ∧
     cur.toList.take (len * sz) = us ∧ RepL fr w cs us ∧ (com = true → cs.length ≤ fr b) ∧ (com = false → fr b = 0) ∧ fr b ≤ cs.length ∧ bl = [b])
/-- A box of data that is handed over, in its closed form. -/
def BoxC (fr : Nat → Nat) (w : World) (u : Value) (cs : List D) (bl : List Nat) : Prop :=
  (∀ x ∈ cs, V.cellOk (.d x) = true) ∧ ∃ b us e, u = .pointer (some ⟨b, 0, none⟩) ∧ w.heap[b]? = some (.cells us e (0, 0)) ∧ RepL fr w cs us.toList ∧ fr b = 0 ∧ bl = [b]
/-- No objects at all. -/
def G.bare (fr : Nat → Nat) : G := ⟨fr, fun _ => 0, fun _ => undef⟩
def none' : Nat → Prop := fun _ => False
def RepC (fr : Nat → Nat) (w : World) : V → Value → List Nat → Prop
  | .fresh com e sz len cs, u, bl => VecC fr w u com e sz len cs bl
  | .fbox cs, u, bl => BoxC fr w u cs bl
  | v, u, bl => bl = [] ∧ RepV (.bare fr) w none' v u
def RepCs (fr : Nat → Nat) (w : World) : List V → List Value → List Nat → Prop
  | [], us, bl => us = [] ∧ bl = []
  | v :: r, us, bl => ∃ u s b1 b2, us = u :: s ∧ bl = b1 ++ b2 ∧ RepC fr w v u b1 ∧ RepCs fr w r s b2
def RepO (fr : Nat → Nat) (w : World) : V → Value → List Nat → Prop
  | .tup vs, u, bl => ∃ us : List Value, u = .tuple us.toArray ∧ RepCs fr w vs us bl
  | v, u, bl => RepC fr w v u bl
theorem le_bare {fr : Nat → Nat} {w : World} {g' : G} {w' : World} {U' : Nat → Prop} (h : Ext fr w g'.fr w') : Le (.bare fr) w none' g' w' U' := ⟨h, fun _ h => h.elim, fun _ h => h.elim, fun _ h => h.elim⟩
theorem RepC.plain {fr : Nat → Nat} {w : World} {v : V} {u : Value} (hn : ∀ com e sz len cs, v ≠ .fresh com e sz len cs) (h : RepV (.bare fr) w none' v u) : RepC fr w v u [] := by
  cases v <;> first | exact ⟨rfl, h⟩ | exact absurd rfl (hn _ _ _ _ _) | exact h.elim
theorem RepC.inv {fr : Nat → Nat} {w : World} {v : V} {u : Value} {bl : List Nat} (h : RepC fr w v u bl) :
    (∃ com e sz len cs, v = .fresh com e sz len cs ∧ VecC fr w u com e sz len cs bl) ∨ (∃ cs, v = .fbox cs ∧ BoxC fr w u cs bl) ∨ ((∀ com e sz len cs, v ≠ .fresh com e sz len cs) ∧ (∀ cs, v ≠ .fbox cs) ∧ bl = [] ∧ RepV (.bare fr) w none' v u) := by
  cases v <;> first | exact .inl ⟨_, _, _, _, _, rfl, h⟩ | exact .inr (.inl ⟨_, rfl, h⟩) | exact .inr (.inr ⟨by simp, by simp, h.1, h.2⟩)
structure Frame (fr : Nat → Nat) (w : World) (bl : List Nat) (fr' : Nat → Nat) (w' : World) : Prop where
  ext : Ext fr w fr' w'
  size : w.heap.size ≤ w'.heap.size
  os : w'.os = w.os
  tape : w'.tape = w.tape
  output : w'.output = w.output
  keep : ∀ b, b < w.heap.size → b ∉ bl → w'.heap[b]? = w.heap[b]? ∧ fr' b = fr b

def callOk (P : Program) (f : FuncId) : Bool :=
  match P.funcs[f]? with
  | some fn => fn.body.isSome && !(fn.name == "runtime.NumGoroutine")
  | none => false
/-- THE CONTRACT: called with values that stand for args, the function returns one that stands for out; of what was there, only the arrays that were handed over as owned may have turned. -/
def TC (P : Program) (f : FuncId) (args : List V) (out : V) : Prop :=
  callOk P f = true ∧ ∀ fr w us bl, RepCs fr w args us bl → bl.Nodup → Calls P f us.toArray w fun e w' => ∃ u fr' bl', e = .returned u ∧ RepO fr' w' out u bl' ∧ bl'.Nodup ∧ Frame fr w bl fr' w' ∧ ∀ b ∈ bl', b ∈ bl ∨ w.heap.size ≤ b

theorem VecC.of_rep {g : G} {w : World} {t : Nat} {com : Bool} {e : TypeId} {sz len : Nat} {cs : List D} (h : VecRep g w t com e sz len cs) :
    ∃ bl, VecC g.fr w (g.vt t) com e sz len cs bl ∧ ((bl = [] ∧ ¬ Solid g t (.vec com e sz len cs)) ∨ (bl = [g.ph t] ∧ Solid g t (.vec com e sz len cs))) := by
  obtain ⟨h1, h2, h3⟩ := h
  rcases h3 with ⟨a, h3, h4⟩ | ⟨cap, cur, us, a1, a2, a3, a4, a5, a6, a7, a8, a9, a10, a11⟩
  · refine ⟨[], ⟨h1, h2, .inl ⟨a, h3, h4, rfl⟩⟩, .inl ⟨rfl, ?_⟩⟩
    rintro ⟨l, c, s1, s2⟩
    rw [h3] at s1; simp at s1; omega
  · exact ⟨[g.ph t], ⟨h1, h2, .inr ⟨g.ph t, cap, cur, us, a1, a2, a3, a4, a5, a6, a7, a8, a9, a10, a11, rfl⟩⟩, .inr ⟨rfl, len, cap, a1, a2⟩⟩

section
variable {P : Program} {g : G} {w : World} {ob : Gt} {U : Nat → Prop}

/-- One value handed over. -/
theorem passV_sound {own : Option (TypeId × Nat)} {v c : V} {u : Upd} {val : Value} (h : passV ob own v = some (c, u)) (hv : RepV g w U v val) (hI : Inv g w ob U) :
    ∃ g' bl, Step g w ob U g' w (updf u ob) U ∧ RepC g'.fr w c val bl ∧ bl.Nodup ∧ (∀ t o, updf u ob t = some o → Solid g' t o → g'.ph t ∉ bl) ∧ (∀ b ∈ bl, ∃ t o, ob t = some o ∧ Solid g t o ∧ g.ph t = b) ∧
      (∀ b ∈ bl, b < w.heap.size) := by
  have triv : ∀ {c : V}, RepC g.fr w c val [] → ∃ g' bl, Step g w ob U g' w (updf [] ob) U ∧ RepC g'.fr w c val bl ∧ bl.Nodup ∧ (∀ t o, updf [] ob t = some o → Solid g' t o → g'.ph t ∉ bl) ∧ (∀ b ∈ bl, ∃ t o, ob t = some o ∧ Solid g t o ∧ g.ph t = b) ∧ (∀ b ∈ bl, b < w.heap.size) :=
    fun hc => ⟨g, [], .same hI (.inl rfl) (fun _ h => h) fun _ _ h => h, hc, List.nodup_nil, fun _ _ _ _ => by simp, by simp, by simp⟩
  unfold passV at h
  split at h
  · simp at h
  · simp at h; obtain ⟨rfl, rfl⟩ := h; exact triv (.plain (by simp) hv)
  · split at h
    · simp at h; obtain ⟨rfl, rfl⟩ := h
      obtain ⟨a, rfl⟩ := hv
      exact triv (.plain (by simp) ⟨a, 0, rfl, ⟨Nat.le_refl _, by simp⟩, .inl rfl⟩)
    · split at h
      · rename_i hsz
        simp at h; obtain ⟨rfl, rfl⟩ := h
        obtain ⟨a, rfl⟩ := hv
        exact triv ⟨⟨by simp, by simp⟩, hsz, .inl ⟨a, rfl, rfl, rfl⟩⟩
      · simp at h
  · rename_i t len
    split at h
    · rename_i com e sz l cs ho
      split at h
      · rename_i hl
        subst hl
        obtain ⟨hU, hval, a, c', hs⟩ := hv
        split at h
        · simp at h; obtain ⟨rfl, rfl⟩ := h
          obtain ⟨bl, hc, hb⟩ := VecC.of_rep (hI.rep t _ ho).2
          have hstep : Step g w ob U g w (updf [(t, none)] ob) U := .same hI (.inl rfl) (fun _ h => h) fun k o hk => by
            simp only [updf] at hk
            split at hk
            · cases hk
            · exact hk
          refine ⟨g, bl, hstep, by rw [hval]; exact hc, ?_, ?_, ?_, ?_⟩
          · rcases hb with ⟨rfl, _⟩ | ⟨rfl, _⟩ <;> simp
          · intro k o hk hs'
            simp only [updf] at hk
            split at hk
            · cases hk
            · rename_i hne
              rcases hb with ⟨rfl, _⟩ | ⟨rfl, hso⟩
              · simp
              · simp only [List.mem_singleton]
                exact hI.apart k o t _ hk ho hne hs' hso
          · intro b hbm
            rcases hb with ⟨rfl, _⟩ | ⟨rfl, hso⟩
            · cases hbm
            · simp at hbm; subst hbm; exact ⟨t, _, ho, hso, rfl⟩
          · intro b hbm
            rcases hb with ⟨rfl, _⟩ | ⟨rfl, hso⟩
            · cases hbm
            · simp at hbm; subst hbm; exact (hI.rep t _ ho).2.lt hso
        · simp at h; obtain ⟨rfl, rfl⟩ := h
          obtain ⟨g', h1, _, _, h2⟩ := Step.commit hI ho
          exact ⟨g', [], h1, .plain (by simp) (h2 val ⟨a, c', hs⟩ hval), List.nodup_nil, fun _ _ _ _ => by simp, by simp, by simp⟩
      · simp at h
    · simp at h
  · rename_i f
    simp at h; obtain ⟨rfl, rfl⟩ := h
    obtain ⟨us, rfl, h2⟩ := hv
    simp [RepVs] at h2; subst h2
    exact triv (.plain (by simp) ⟨[], rfl, rfl⟩)
  · simp at h; obtain ⟨rfl, rfl⟩ := h; exact triv (.plain (by simp) hv)
  · simp at h; obtain ⟨rfl, rfl⟩ := h; exact triv (.plain (by simp) hv)
  · rename_i t off
    obtain ⟨hU, rfl⟩ := hv
    split at h
    · rename_i cs ho
      split at h
      · rename_i ds hds
        obtain ⟨us, e, h1, h2, h3⟩ := (hI.rep t _ ho).2
        obtain ⟨hr, hck⟩ := repL_datas hds h2
        split at h
        · split at h
          · rename_i hoff
            simp at h; obtain ⟨rfl, rfl⟩ := h
            obtain ⟨g', s1, s2, s3, s4⟩ := Step.commitBox hI ho trivial hck h1 hr (by omega)
            obtain ⟨b, o, e1, e2⟩ := s4 off hoff
            exact ⟨g', [], s1, .plain (by simp) ⟨b, o, e1, e2⟩, List.nodup_nil, fun _ _ _ _ => by simp, by simp, by simp⟩
          · simp at h
        · split at h
          · rename_i hoff
            subst hoff
            simp at h; obtain ⟨rfl, rfl⟩ := h
            have hstep : Step g w ob U g w (updf [(t, none)] ob) U := .same hI (.inl rfl) (fun _ h => h) fun k o hk => by
              simp only [updf] at hk
              split at hk
              · cases hk
              · exact hk
            refine ⟨g, [g.ph t], hstep, ⟨hck, g.ph t, us, e, rfl, h1, hr, h3, rfl⟩, by simp, ?_, ?_, ?_⟩
            · intro k o hk hs'
              simp only [updf] at hk
              split at hk
              · cases hk
              · rename_i hne
                simp only [List.mem_singleton]
                exact hI.apart k o t _ hk ho hne hs' trivial
            · intro b hbm
              simp at hbm; subst hbm; exact ⟨t, _, ho, trivial, rfl⟩
            · intro b hbm
              simp at hbm; subst hbm; exact (hI.rep t _ ho).2.lt trivial
          · simp at h
      · simp at h
    · rename_i ds ho
      split at h
      · split at h
        · rename_i hoff
          simp at h; obtain ⟨rfl, rfl⟩ := h
          obtain ⟨hck, us, e, h1, h2, h3⟩ := (hI.rep t _ ho).2
          refine triv (.plain (by simp) ⟨g.ph t, off, rfl, ?_⟩)
          have hrep : RepAt g.fr w ds (g.ph t) 0 := repAt_of_vals h2 (fun i u hu => by
            rw [Nat.zero_add, cell_of_row w (g.ph t) i us e (0, 0) h1]
            simpa using hu) (by omega)
          have := repAt_drop off hrep hoff
          rw [Nat.zero_add] at this
          exact this
        · simp at h
      · simp at h
    · simp at h
  · simp at h; obtain ⟨rfl, rfl⟩ := h; exact triv (.plain (by simp) hv)
  · rename_i cs
    split at h
    · rename_i ds u' hd
      simp at h; obtain ⟨rfl, rfl⟩ := h
      obtain ⟨us, rfl, h2⟩ := hv
      obtain ⟨_, g', h3, h4⟩ := toDs_sound hd h2 hI
      exact ⟨g', [], h3, .plain (by simp) ⟨us, rfl, repVs_of_repL h4⟩, List.nodup_nil, fun _ _ _ _ => by simp, by simp, by simp⟩
    · simp at h
  · simp at h

theorem VecC.mono {fr fr' : Nat → Nat} {w : World} (hext : Ext fr w fr' w) {u : Value} {com : Bool} {e : TypeId} {sz len : Nat} {cs : List D} {bl : List Nat} (hb : ∀ b ∈ bl, fr' b = fr b) (h : VecC fr w u com e sz len cs bl) : VecC fr' w u com e sz len cs bl := by
  obtain ⟨h1, h2, h3⟩ := h
  refine ⟨h1, h2, ?_⟩
  rcases h3 with h3 | ⟨b, cap, cur, us, a1, a2, a3, a4, a5, a6, a7, a8, a9, a10, a11, rfl⟩
  · exact .inl h3
  · have := hb b (by simp)
    exact .inr ⟨b, cap, cur, us, a1, a2, a3, a4, a5, a6, a7, RepL.mono hext _ _ a8, by rw [this]; exact a9, by rw [this]; exact a10, by rw [this]; exact a11, rfl⟩
theorem RepC.mono {fr fr' : Nat → Nat} {w : World} (hext : Ext fr w fr' w) (c : V) (u : Value) (bl : List Nat) (hb : ∀ b ∈ bl, fr' b = fr b) (h : RepC fr w c u bl) : RepC fr' w c u bl := by
  rcases h.inv with ⟨com, e, sz, len, cs, rfl, h'⟩ | ⟨cs, rfl, h'⟩ | ⟨hn, _, rfl, h'⟩
  · exact VecC.mono hext hb h'
  · obtain ⟨h1, b, us, e, h2, h3, h4, h5, rfl⟩ := h'
    exact ⟨h1, b, us, e, h2, h3, RepL.mono hext _ _ h4, by rw [hb b (by simp)]; exact h5, rfl⟩
  · exact .plain hn (RepV.mono (le_bare hext) _ _ h')

theorem passAll_sound : ∀ {vs : List V} {own : List (Nat × TypeId × Nat)} {i : Nat} {cs : List V} {u : Upd} {us : List Value} {g : G} {ob : Gt}, passAll ob own i vs = some (cs, u) → RepVs g w U vs us → Inv g w ob U →
    ∃ g' bl, Step g w ob U g' w (updf u ob) U ∧ RepCs g'.fr w cs us bl ∧ bl.Nodup ∧ (∀ t o, updf u ob t = some o → Solid g' t o → g'.ph t ∉ bl) ∧ (∀ b ∈ bl, ∃ t o, ob t = some o ∧ Solid g t o ∧ g.ph t = b) ∧ (∀ b ∈ bl, b < w.heap.size)
  | [], own, i, cs, u, us, g, ob, h, hv, hI => by
    simp [passAll] at h
    obtain ⟨rfl, rfl⟩ := h
    exact ⟨g, [], .same hI (.inl rfl) (fun _ h => h) fun _ _ h => h, ⟨hv, rfl⟩, List.nodup_nil, fun _ _ _ _ => by simp, by simp, by simp⟩
  | v :: r, own, i, cs, u, us, g, ob, h, hv, hI => by
    simp only [passAll] at h
    split at h
    · rename_i c u1 h1
      split at h
      · rename_i cs' u2 h2
        simp at h
        obtain ⟨rfl, rfl⟩ := h
        obtain ⟨val, vals, rfl, a1, a2⟩ := hv
        obtain ⟨g1, b1, s1, c1, n1, p1, q1, l1⟩ := passV_sound h1 a1 hI
        obtain ⟨g2, b2, s2, c2, n2, p2, q2, l2⟩ := passAll_sound h2 (RepVs.mono s1.le _ _ a2) s1.inv
        have hd : ∀ b ∈ b1, b ∉ b2 := fun b hb hb2 => by
          obtain ⟨t, o, e1, e2, e3⟩ := q2 b hb2
          exact p1 t o e1 e2 (e3 ▸ hb)
        refine ⟨g2, b1 ++ b2, ?_, ⟨val, vals, b1, b2, rfl, rfl, RepC.mono s2.le.ext c val b1 ?_ c1, c2⟩, ?_, ?_, ?_, ?_⟩
        · rw [updf_append]; exact s1.trans s2
        · intro b hb
          exact (s2.keep b (l1 b hb) fun t o e1 e2 e3 => p1 t o e1 e2 (e3 ▸ hb)).2
        · exact List.nodup_append.2 ⟨n1, n2, fun a ha b hb e => hd a ha (e ▸ hb)⟩
        · intro t o ht hs hm
          rw [updf_append] at ht
          rcases List.mem_append.1 hm with hm | hm
          · rcases s2.new t o ht hs with h | ⟨t0, o0, e1, e2, e3⟩
            · have := l1 _ hm; omega
            · exact p1 t0 o0 e1 e2 (e3 ▸ hm)
          · exact p2 t o ht hs hm
        · intro b hb
          rcases List.mem_append.1 hb with hb | hb
          · exact q1 b hb
          · obtain ⟨t, o, e1, e2, e3⟩ := q2 b hb
            rcases s1.new t o e1 e2 with h | ⟨t0, o0, e4, e5, e6⟩
            · have := l2 b hb; omega
            · exact ⟨t0, o0, e4, e5, e6.trans e3⟩
        · intro b hb
          rcases List.mem_append.1 hb with hb | hb
          · exact l1 b hb
          · exact l2 b hb
      · simp at h
    · simp at h

/-- A closed value, taken up as an object (or as it is). -/
theorem RepC.split {fr : Nat → Nat} {w : World} {v : V} {u : Value} {bl : List Nat} (h : RepC fr w v u bl) (id : Nat) :
    (∃ o x b0, recvV id v = (x, [(id, some o)]) ∧ ∀ (g1 : G) (U1 : Nat → Prop), g1.fr = fr → g1.ph id = b0 → g1.vt id = u → U1 id → ObRep g1 w U1 id o ∧ RepV g1 w U1 x u ∧ (Solid g1 id o → bl = [b0])) ∨
    (recvV id v = (v, []) ∧ bl = [] ∧ RepV (.bare fr) w none' v u) := by
  rcases h.inv with ⟨com, e, sz, len, cs, rfl, hv⟩ | ⟨cs, rfl, hv⟩ | ⟨hn, hn2, rfl, hv⟩
  · refine .inl ⟨.vec com e sz len cs, .own id len, bl.headD 0, rfl, fun g1 U1 hfr hph hvt hU => ?_⟩
    subst hfr
    obtain ⟨q1, q2, q3⟩ := hv
    refine ⟨⟨q1, q2, ?_⟩, ⟨hU, hvt.symm, ?_⟩, fun hs => ?_⟩
    · rcases q3 with ⟨a, q3, q4, _⟩ | ⟨b, cap, cur, us', a1, a2, a3, a4, a5, a6, a7, a8, a9, a10, a11, rfl⟩
      · exact .inl ⟨a, by rw [hvt]; exact q3, q4⟩
      · have hph' : g1.ph id = b := hph
        exact .inr ⟨cap, cur, us', by rw [hvt, hph']; exact a1, a2, by rw [hph']; exact a3, a4, a5, a6, a7, a8, by rw [hph']; exact a9, by rw [hph']; exact a10, by rw [hph']; exact a11⟩
    · rcases q3 with ⟨a, q3, q4, _⟩ | ⟨b, cap, cur, us', a1, _⟩
      · exact ⟨a, 0, by rw [q3, q4]⟩
      · exact ⟨_, _, a1⟩
    · rcases q3 with ⟨a, q3, q4, _⟩ | ⟨b, cap, cur, us', a1, a2, a3, a4, a5, a6, a7, a8, a9, a10, a11, rfl⟩
      · obtain ⟨l, c, s1, s2⟩ := hs
        rw [hvt, q3] at s1; simp at s1; omega
      · rfl
  · obtain ⟨q1, b, us, e, rfl, q2, q3, q4, rfl⟩ := hv
    refine .inl ⟨.box (cs.map .d), .ptr id 0, b, rfl, fun g1 U1 hfr hph hvt hU => ?_⟩
    subst hfr
    exact ⟨⟨us, e, by rw [hph]; exact q2, repVs_of_repL q3, by rw [hph]; exact q4⟩, ⟨hU, by rw [hph]⟩, fun _ => rfl⟩
  · refine .inr ⟨?_, rfl, hv⟩
    cases v <;> first | rfl | exact absurd rfl (hn _ _ _ _ _) | exact absurd rfl (hn2 _)

/-- The new names that a list takes. -/
def namesFrom (U : Nat → Prop) (id n : Nat) : Nat → Prop := fun t => U t ∨ (id ≤ t ∧ t < id + n)

/-- Closed values of another call's are taken up: the owned ones under new names. -/
theorem adopt : ∀ (vs : List V) (us : List Value) (bl : List Nat) (id : Nat) (g : G) (ob : Gt) (U : Nat → Prop), Inv g w ob U → RepCs g.fr w vs us bl → bl.Nodup → (∀ t o, ob t = some o → Solid g t o → g.ph t ∉ bl) → (∀ k, id ≤ k → k < id + vs.length → ¬ U k) →
    ∃ g', g'.fr = g.fr ∧ (∀ t, U t → g'.ph t = g.ph t ∧ g'.vt t = g.vt t) ∧ Inv g' w (updf (recvs id vs).2 ob) (namesFrom U id vs.length) ∧ RepVs g' w (namesFrom U id vs.length) (recvs id vs).1 us ∧
      ∀ t o, updf (recvs id vs).2 ob t = some o → Solid g' t o → (ob t = some o ∧ U t ∧ Solid g t o) ∨ g'.ph t ∈ bl
  | [], us, bl, id, g, ob, U, hI, h, _, _, _ => by
    obtain ⟨rfl, rfl⟩ := h
    exact ⟨g, rfl, fun _ _ => ⟨rfl, rfl⟩, hI.used fun _ h => .inl h, rfl, fun t o ht hs => .inl ⟨ht, (hI.rep t o ht).1, hs⟩⟩
  | v :: r, us, bl, id, g, ob, U, hI, h, hnd, hap, hid => by
    obtain ⟨u, s, b1, b2, rfl, rfl, h3, h4⟩ := h
    obtain ⟨hn1, hn2, hdis⟩ := List.nodup_append.1 hnd
    have hnames : ∀ t, namesFrom (namesFrom U id 1) (id + 1) r.length t → namesFrom U id (v :: r).length t := fun t ht => by
      simp only [namesFrom, List.length_cons] at ht ⊢
      rcases ht with (ht | ht) | ht
      · exact .inl ht
      · exact .inr (by omega)
      · exact .inr (by omega)
    have hfresh : ∀ k, id + 1 ≤ k → k < id + 1 + r.length → ¬ namesFrom U id 1 k := fun k hk hk2 h => by
      rcases h with h | h
      · exact hid k (by omega) (by simp; omega) h
      · omega
    rcases h3.split id with ⟨o, x, b0, hrv, hobj⟩ | ⟨e0, rfl, hv⟩
    · -- an owned one
      let g1 : G := ⟨g.fr, fun t => if t = id then b0 else g.ph t, fun t => if t = id then u else g.vt t⟩
      have hne : ∀ t, U t → t ≠ id := fun t ht e => hid id (Nat.le_refl _) (by simp) (e ▸ ht)
      have hle : Le g w U g1 w (namesFrom U id 1) := ⟨.refl _ _, fun t ht => if_neg (hne t ht), fun t ht => if_neg (hne t ht), fun t ht => .inl ht⟩
      have hvt : g1.vt id = u := if_pos rfl
      have hph : g1.ph id = b0 := if_pos rfl
      obtain ⟨hrep, hval, hsol'⟩ := hobj g1 (namesFrom U id 1) rfl hph hvt (.inr ⟨Nat.le_refl _, by omega⟩)
      have hsol : Solid g1 id o → b1 = [g1.ph id] := fun hs => by rw [hph]; exact hsol' hs
      have hob1 : updf [(id, some o)] ob = fun t => if t = id then some o else ob t := rfl
      have hI1 : Inv g1 w (updf [(id, some o)] ob) (namesFrom U id 1) := by
        rw [hob1]
        refine ⟨fun t o' ht => ?_, fun t o1 t' o' ht ht' hne' hs hs' => ?_⟩
        · by_cases e' : t = id
          · subst e'; simp at ht; subst ht
            exact ⟨.inr ⟨Nat.le_refl _, by omega⟩, hrep⟩
          · simp [e'] at ht
            have := hI.rep t o' ht
            exact ⟨.inl this.1, ObRep.kept hle this.1 (fun _ => ⟨rfl, rfl⟩) this.2⟩
        · have old : ∀ t o', t ≠ id → ob t = some o' → Solid g1 t o' → g1.ph t = g.ph t ∧ Solid g t o' := fun t o' _ ht hs => by
            have hU := (hI.rep t o' ht).1
            exact ⟨hle.ph t hU, (Solid.kept hle hU).1 hs⟩
          by_cases e1 : t = id
          · subst e1
            simp at ht; subst ht
            have e2 : t' ≠ t := fun e => hne' e.symm
            simp [e2] at ht'
            obtain ⟨o1, o2⟩ := old t' o' e2 ht' hs'
            rw [o1]
            have hb := hsol hs
            intro he
            exact hap t' o' ht' o2 (List.mem_append_left _ (by rw [hb, he]; simp))
          · simp [e1] at ht
            obtain ⟨o1, o2⟩ := old t o1 e1 ht hs
            by_cases e2 : t' = id
            · subst e2
              simp at ht'; subst ht'
              rw [o1]
              have hb := hsol hs'
              intro he
              exact hap t _ ht o2 (List.mem_append_left _ (by rw [hb, he]; simp))
            · simp [e2] at ht'
              obtain ⟨o3, o4⟩ := old t' o' e2 ht' hs'
              rw [o1, o3]
              exact hI.apart t _ t' o' ht ht' hne' o2 o4
      have hap1 : ∀ t o', updf [(id, some o)] ob t = some o' → Solid g1 t o' → g1.ph t ∉ b2 := fun t o' ht hs => by
        rw [hob1] at ht
        by_cases e1 : t = id
        · subst e1
          simp at ht; subst ht
          have hb := hsol hs
          intro hm
          exact hdis (g1.ph t) (by rw [hb]; simp) (g1.ph t) hm rfl
        · simp [e1] at ht
          have hU := (hI.rep t o' ht).1
          rw [hle.ph t hU]
          intro hm
          exact hap t o' ht ((Solid.kept hle hU).1 hs) (List.mem_append_right _ hm)
      obtain ⟨g2, r1, r2, r3, r4, r5⟩ := adopt r s b2 (id + 1) g1 _ _ hI1 h4 hn2 hap1 hfresh
      have hupd : updf (recvs id (v :: r)).2 ob = updf (recvs (id + 1) r).2 (updf [(id, some o)] ob) := by
        simp only [recvs, hrv, updf_append]
      have hfst : (recvs id (v :: r)).1 = x :: (recvs (id + 1) r).1 := by simp only [recvs, hrv]
      rw [hfst]
      refine ⟨g2, r1, fun t ht => ?_, ?_, ⟨u, s, rfl, ?_, RepVs.mono ⟨by rw [r1]; exact .refl _ _, fun _ _ => rfl, fun _ _ => rfl, hnames⟩ _ _ r4⟩, ?_⟩
      · obtain ⟨k1, k2⟩ := r2 t (.inl ht)
        exact ⟨k1.trans (hle.ph t ht), k2.trans (hle.vt t ht)⟩
      · rw [hupd]; exact r3.used hnames
      · exact RepV.mono (g := g1) (U := namesFrom U id 1) ⟨by rw [r1]; exact .refl _ _, fun t ht => (r2 t ht).1, fun t ht => (r2 t ht).2, fun t ht => hnames t (.inl ht)⟩ _ _ hval
      · intro t o' ht hs
        rw [hupd] at ht
        rcases r5 t o' ht hs with ⟨k1, k2, k3⟩ | k
        · rw [hob1] at k1
          by_cases e1 : t = id
          · subst e1
            simp at k1; subst k1
            have hb := hsol k3
            right
            rw [(r2 t k2).1]
            exact List.mem_append_left _ (by rw [hb]; simp)
          · simp [e1] at k1
            have hU := (hI.rep t o' k1).1
            exact .inl ⟨k1, hU, (Solid.kept hle hU).1 k3⟩
        · exact .inr (List.mem_append_right _ k)
    · have e1 : (recvs id (v :: r)).2 = (recvs (id + 1) r).2 := by simp [recvs, e0]
      have e2 : (recvs id (v :: r)).1 = v :: (recvs (id + 1) r).1 := by simp [recvs, e0]
      obtain ⟨g2, r1, r2, r3, r4, r5⟩ := adopt r s b2 (id + 1) g ob (namesFrom U id 1) (hI.used fun _ h => .inl h) h4 hn2 (fun t o ht hs => by simpa using hap t o ht hs) hfresh
      rw [e1, e2]
      refine ⟨g2, r1, fun t ht => r2 t (.inl ht), r3.used hnames, ⟨u, s, rfl, RepV.mono (le_bare (by rw [r1]; exact .refl _ _)) _ _ hv, RepVs.mono ⟨.refl _ _, fun _ _ => rfl, fun _ _ => rfl, hnames⟩ _ _ r4⟩, fun t o ht hs => ?_⟩
      rcases r5 t o ht hs with ⟨k1, _, k3⟩ | k
      · exact .inl ⟨k1, (hI.rep t o k1).1, k3⟩
      · exact .inr (by simpa using k)

/-- A call by its contract. -/
theorem sound_call {own : List (Nat × TypeId × Nat)} {f : FuncId} {vs cargs : List V} {out : V} {u : Upd} {us : List Value} {id : Nat} (hI : Inv g w ob U) (hid : ∀ k, id ≤ k → k < id + 8 → ¬ U k) (hp : passAll ob own 0 vs = some (cargs, u)) (hv : RepVs g w U vs us)
    (hC : TC P f cargs out) :
    Calls P f us.toArray w fun e w' => ∃ r g', e = .returned r ∧ RepV g' w' (fresh8 U id) (recv id out).1 r ∧ Step g w ob U g' w' (updf (u ++ (recv id out).2) ob) (fresh8 U id) := by
  obtain ⟨g1, bl, s1, c1, n1, p1, q1, l1⟩ := passAll_sound hp hv hI
  refine (hC.2 g1.fr w us bl c1 n1).mono fun e w' h => ?_
  obtain ⟨r, fr', bl', rfl, ho, n2, hf, hb⟩ := h
  let gA : G := ⟨fr', g1.ph, g1.vt⟩
  have hleA : Le g1 w U gA w' U := ⟨hf.ext, fun _ _ => rfl, fun _ _ => rfl, fun _ h => h⟩
  have hkept : ∀ t o, updf u ob t = some o → Solid g1 t o → w'.heap[g1.ph t]? = w.heap[g1.ph t]? ∧ fr' (g1.ph t) = g1.fr (g1.ph t) := fun t o ht hs =>
    hf.keep _ ((s1.inv.rep t o ht).2.lt hs) (p1 t o ht hs)
  have hIA : Inv gA w' (updf u ob) U := ⟨fun t o ht => ⟨(s1.inv.rep t o ht).1, ObRep.kept hleA (s1.inv.rep t o ht).1 (fun hs => hkept t o ht hs) (s1.inv.rep t o ht).2⟩,
    fun t o t' o' ht ht' hne hs hs' => s1.inv.apart t o t' o' ht ht' hne ((Solid.kept hleA (s1.inv.rep t o ht).1).1 hs) ((Solid.kept hleA (s1.inv.rep t' o' ht').1).1 hs')⟩
  have hapA : ∀ t o, updf u ob t = some o → Solid gA t o → gA.ph t ∉ bl' := fun t o ht hs hm => by
    have hs1 := (Solid.kept hleA (s1.inv.rep t o ht).1).1 hs
    rcases hb _ hm with h | h
    · exact p1 t o ht hs1 h
    · have h1 : g1.ph t < w.heap.size := (s1.inv.rep t o ht).2.lt hs1
      have h2 : gA.ph t = g1.ph t := rfl
      omega
  -- taking up a list of closed values
  have key : ∀ (vs : List V) (us : List Value), vs.length ≤ 8 → RepCs fr' w' vs us bl' →
      ∃ g', RepVs g' w' (fresh8 U id) (recvs id vs).1 us ∧ Step g w ob U g' w' (updf (u ++ (recvs id vs).2) ob) (fresh8 U id) := by
    intro vs us hlen hc
    obtain ⟨g2, r1, r2, r3, r4, r5⟩ := adopt (w := w') vs us bl' id gA (updf u ob) U hIA hc n2 hapA (fun k h1 h2 => hid k h1 (by omega))
    have hnm : ∀ t, namesFrom U id vs.length t → fresh8 U id t := fun t ht => by
      rcases ht with h | h
      · exact .inl h
      · exact .inr (by omega)
    refine ⟨g2, RepVs.mono ⟨.refl _ _, fun _ _ => rfl, fun _ _ => rfl, hnm⟩ _ _ r4, ?_⟩
    have hle : Le g1 w U g2 w' (fresh8 U id) := ⟨by rw [r1]; exact hf.ext, fun t ht => (r2 t ht).1, fun t ht => (r2 t ht).2, fun t ht => .inl ht⟩
    rw [updf_append]
    exact {
      le := s1.le.trans hle
      inv := r3.used hnm
      size := hf.size
      os := hf.os
      tape := hf.tape
      output := hf.output
      keep := fun b hb' hno => by
        obtain ⟨e1, e2⟩ := s1.keep b hb' hno
        have hm : b ∉ bl := fun hm => by
          obtain ⟨t, o, k1, k2, k3⟩ := q1 b hm
          exact hno t o k1 k2 k3
        obtain ⟨e3, e4⟩ := hf.keep b hb' hm
        exact ⟨e3.trans e1, by rw [r1]; exact e4.trans e2⟩
      new := fun t o ht hs => by
        rcases r5 t o ht hs with ⟨k1, k2, k3⟩ | k
        · have h3 := (Solid.kept hleA k2).1 k3
          rw [(r2 t k2).1]
          exact s1.new t o k1 h3
        · rcases hb _ k with h | h
          · obtain ⟨t0, o0, k1, k2, k3⟩ := q1 _ h
            exact .inr ⟨t0, o0, k1, k2, k3⟩
          · exact .inl h }
  by_cases ht : ∃ vs, out = .tup vs
  · obtain ⟨vs, rfl⟩ := ht
    obtain ⟨us', rfl, hc⟩ := ho
    by_cases hlen : vs.length ≤ 8
    · obtain ⟨g', k1, k2⟩ := key vs us' hlen hc
      refine ⟨_, g', rfl, ?_, ?_⟩
      · simp only [recv, if_pos hlen]; exact ⟨us', rfl, k1⟩
      · simp only [recv, if_pos hlen]; exact k2
    · -- too many results: nothing is known of them
      have hle1 : Le g1 w U gA w' (fresh8 U id) := hleA.trans (Le.grow fresh8_mono)
      refine ⟨_, gA, rfl, by simp only [recv, if_neg hlen]; exact trivial, ?_⟩
      simp only [recv, if_neg hlen, List.append_nil]
      exact {
        le := s1.le.trans hle1
        inv := hIA.used fresh8_mono
        size := hf.size
        os := hf.os
        tape := hf.tape
        output := hf.output
        keep := fun b hb' hno => by
          obtain ⟨e1, e2⟩ := s1.keep b hb' hno
          have hm : b ∉ bl := fun hm => by
            obtain ⟨t, o, k1, k2, k3⟩ := q1 b hm
            exact hno t o k1 k2 k3
          obtain ⟨e3, e4⟩ := hf.keep b hb' hm
          exact ⟨e3.trans e1, e4.trans e2⟩
        new := fun t o ht hs => s1.new t o ht ((Solid.kept hleA (s1.inv.rep t o ht).1).1 hs) }
  · have e0 : recv id out = recvV id out := by
      cases out <;> first | rfl | exact absurd ⟨_, rfl⟩ ht
    have ho' : RepC fr' w' out r bl' := by
      cases out <;> first | exact ho | exact absurd ⟨_, rfl⟩ ht
    obtain ⟨g', k1, k2⟩ := key [out] [r] (by simp) ⟨r, [], bl', [], rfl, by simp, ho', rfl, rfl⟩
    rw [e0]
    have e1 : (recvs id [out]).2 = (recvV id out).2 := by simp [recvs]
    have e2 : (recvs id [out]).1 = [(recvV id out).1] := by simp [recvs]
    rw [e1] at k2
    rw [e2] at k1
    obtain ⟨u', s', k3, k4, _⟩ := k1
    simp at k3
    obtain ⟨rfl, _⟩ := k3
    exact ⟨r, g', rfl, k4, k2⟩
end
end Go.Vk
