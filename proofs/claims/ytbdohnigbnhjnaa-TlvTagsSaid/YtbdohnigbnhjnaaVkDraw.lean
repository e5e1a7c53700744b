/- A region whose order is open: the order of the text serves every order. -/
import Derived.Test.YtbdohnigbnhjnaaVkCode
set_option linter.unusedSimpArgs false
set_option linter.unusedVariables false
set_option linter.unusedSectionVars false
namespace Go.Vk

def valG (get : Nat → V) : X → V
  | .t n => get n
  | .c v => v
theorem val_eq (st : St) : st.val = valG st.get := by funext x; cases x <;> rfl

/-! ### what an instruction looks into decides what it does -/
theorem toD1_congr {ob ob' : Gt} {v : V} (h : ∀ t ∈ v.ids0, ob t = ob' t) : v.toD1 ob = v.toD1 ob' := by
  cases v <;> try rfl
  case d x => cases x <;> rfl
  case own t l => simp only [V.toD1, h t (by simp [V.ids0])]
theorem toDs_congr {ob ob' : Gt} : ∀ {vs : List V}, (∀ t ∈ vs.flatMap V.ids0, ob t = ob' t) → V.toDs ob vs = V.toDs ob' vs
  | [], _ => rfl
  | v :: r, h => by
    simp only [V.toDs]
    rw [toD1_congr (v := v) (fun t ht => h t (by simp [ht])), toDs_congr (vs := r) (fun t ht => h t (by simp at ht ⊢; exact .inr ht))]
theorem ids0_sub (v : V) : ∀ t ∈ v.ids0, t ∈ v.ids := by
  intro t ht
  cases v <;> simp [V.ids0] at ht <;> simp [V.ids, V.ids1, V.ids0, ht]
theorem cells_ids (v : V) : ∀ t ∈ v.cells.flatMap V.ids0, t ∈ v.ids := by
  intro t ht
  cases v with
  | agg cs => exact ht
  | _ => exact ids0_sub _ t (by simpa [V.cells] using ht)
theorem sliceOf_congr {ob ob' : Gt} {v : V} (h : ∀ t ∈ v.ids, ob t = ob' t) : v.sliceOf ob = v.sliceOf ob' := by
  cases v <;> try rfl
  case d x => cases x <;> rfl
  case own t l => simp only [V.sliceOf, h t (by simp [V.ids, V.ids1, V.ids0])]
theorem placeD_congr {ob ob' : Gt} : ∀ {ps : List (Nat × Nat × V)} {zs : List D}, (∀ t ∈ ps.flatMap (fun p => p.2.2.ids), ob t = ob' t) → placeD ob zs ps = placeD ob' zs ps
  | [], _, _ => rfl
  | (off, n, v) :: r, zs, h => by
    simp only [placeD]
    rw [toDs_congr (vs := v.cells) (fun t ht => h t (by simp [cells_ids v t ht]))]
    split
    · split
      · rw [placeD_congr (ps := r) (fun t ht => h t (by simp at ht ⊢; exact .inr ht))]
      · rfl
    · rfl
theorem ids1_sub (v : V) : ∀ t ∈ v.ids1, t ∈ v.ids := by
  intro t ht
  cases v <;> first | exact ht | (simp [V.ids1, V.ids0] at ht)
theorem passV_congr {ob ob' : Gt} {own : Option (TypeId × Nat)} {v : V} (h : ∀ t ∈ v.ids1, ob t = ob' t) : passV ob own v = passV ob' own v := by
  cases v <;> try rfl
  case d x => cases x <;> rfl
  case own t l => simp only [passV, h t (by simp [V.ids, V.ids1, V.ids0])]
  case ptr t l => simp only [passV, h t (by simp [V.ids, V.ids1, V.ids0])]
  case fn f caps => cases caps <;> rfl
  case agg cs => simp only [passV]; rw [toDs_congr (vs := cs) h]
theorem ifV_ids (y : D) : (ifV y).ids1 = [] := by
  cases y <;> try rfl
  case agg cs => simp [ifV, V.ids1, V.ids0]
theorem updf_congr : ∀ (u : Upd) {ob ob' : Gt} {t : Nat}, ob t = ob' t → updf u ob t = updf u ob' t
  | [], _, _, _, h => h
  | (k, o) :: r, ob, ob', t, h => by
    simp only [updf]
    apply updf_congr r
    by_cases e : t = k
    · simp [e]
    · simp [e]; exact h
theorem updf_key : ∀ (u : Upd) {ob ob' : Gt} {t : Nat}, t ∈ u.map (·.1) → updf u ob t = updf u ob' t
  | [], _, _, _, h => by simp at h
  | (k, o) :: r, ob, ob', t, h => by
    simp only [updf]
    by_cases e : t = k
    · apply updf_congr r
      simp [e]
    · simp only [List.map_cons, List.mem_cons] at h
      exact updf_key r (h.resolve_left e)
theorem updf_other : ∀ (u : Upd) {ob : Gt} {t : Nat}, t ∉ u.map (·.1) → updf u ob t = ob t
  | [], _, _, _ => rfl
  | (k, o) :: r, ob, t, h => by
    simp only [List.map_cons, List.mem_cons, not_or] at h
    simp only [updf]
    rw [updf_other r h.2]
    simp [h.1]
theorem passAll_congr {own : List (Nat × TypeId × Nat)} : ∀ {vs : List V} {i : Nat} {ob ob' : Gt}, (∀ t ∈ vs.flatMap V.ids1, ob t = ob' t) → passAll ob own i vs = passAll ob' own i vs
  | [], _, _, _, _ => rfl
  | v :: r, i, ob, ob', h => by
    simp only [passAll]
    rw [passV_congr (v := v) (fun t ht => h t (by simp [ht]))]
    split
    · rename_i c u h1
      rw [passAll_congr (vs := r) (ob := updf u ob) (ob' := updf u ob') (fun t ht => updf_congr u (h t (by simp at ht ⊢; exact .inr ht)))]
    · rfl

theorem ev_congr {id : Nat} {val val' : X → V} {ob ob' : Gt} {op : IOp} (hv : ∀ x ∈ op.xs, val x = val' x) (ho : ∀ t ∈ reads val op, ob t = ob' t) : ev id val ob op = ev id val' ob' op := by
  have ids : ∀ x ∈ op.xs, ∀ t ∈ (val x).ids, ob t = ob' t := fun x hx t ht => ho t (by unfold reads; exact List.mem_flatMap.2 ⟨x, hx, ht⟩)
  cases op <;> simp only [IOp.xs, List.mem_cons, List.mem_nil_iff, or_false, forall_eq, forall_eq_or_imp, List.not_mem_nil] at hv ids <;> try (simp only [ev, hv]; done)
  case build zs ps =>
    have : (ps.map fun p => (p.1, p.2.1, val p.2.2)) = (ps.map fun p => (p.1, p.2.1, val' p.2.2)) := List.map_congr_left fun p hp => by rw [hv p.2.2 (List.mem_map.2 ⟨p, hp, rfl⟩)]
    simp only [ev, this]
  case bsl e sz len zs ps =>
    have h1 : (ps.map fun p => (p.1, p.2.1, val p.2.2)) = (ps.map fun p => (p.1, p.2.1, val' p.2.2)) := List.map_congr_left fun p hp => by rw [hv p.2.2 (List.mem_map.2 ⟨p, hp, rfl⟩)]
    simp only [ev]
    rw [placeD_congr (ob := ob) (ob' := ob') (by
      intro t ht
      simp only [List.flatMap_map, List.mem_flatMap] at ht
      obtain ⟨p, hp, ht⟩ := ht
      exact ids p.2.2 (List.mem_map.2 ⟨p, hp, rfl⟩) t ht), h1]
  case ld n x =>
    simp only [ev, ← hv]
    split
    · rename_i b off hb
      rw [ids b (by rw [hb]; simp [V.ids, V.ids1, V.ids0])]
    all_goals rfl
  case st n x y =>
    obtain ⟨i1, i2⟩ := ids
    simp only [ev, ← hv.1, ← hv.2]
    split
    · rename_i b off hb
      rw [← i1 b (by rw [hb]; simp [V.ids, V.ids1, V.ids0])]
      split
      · rfl
      · rw [toDs_congr (vs := (val y).cells) (fun t ht => i2 t (cells_ids _ t ht))]
      · rfl
    all_goals rfl
  case b2s x => simp only [ev, ← hv]; rw [sliceOf_congr ids]
  case mki t x =>
    simp only [ev, ← hv]
    split
    · rename_i cs hc
      rw [toDs_congr (vs := cs) (fun t ht => ids t (by rw [hc]; exact ht))]
    · rw [toD1_congr (v := val x) (fun t ht => ids t (ids0_sub _ t ht))]
  case mkf f caps => simp only [ev]; rw [List.map_congr_left hv]
  case mn xs => simp only [ev]; rw [List.map_congr_left hv]
  case mx xs => simp only [ev]; rw [List.map_congr_left hv]
  case sl sz x lo hi mx =>
    have h1 : val x = val' x := hv.1
    have h2 : lo.map val = lo.map val' := by cases lo <;> simp; exact hv.2 _ (by simp)
    have h3 : hi.map val = hi.map val' := by cases hi <;> simp; exact hv.2 _ (by simp)
    have h4 : mx.map val = mx.map val' := by cases mx <;> simp; exact hv.2 _ (by simp)
    have h5 : ∀ m, mx = some m → val m = val' m := fun m hm => hv.2 m (by simp [hm])
    have h6 : ∀ m, hi = some m → val m = val' m := fun m hm => hv.2 m (by simp [hm])
    have hi1 := ids.1
    simp only [ev, ← h1, ← h2, ← h3, ← h4]
    split
    · split
      · rfl
      · rename_i m h0
        rw [h5 m rfl, h6 h0 rfl]
      · rfl
    · rename_i t len ht
      rw [hi1 t (by rw [ht]; simp [V.ids, V.ids1, V.ids0])]
      split
      · split
        · rfl
        · rename_i m h0
          rw [h5 m rfl, h6 h0 rfl]
        · rfl
      · rfl
    all_goals rfl
  case sls x lo hi =>
    have h1 : val x = val' x := hv.1
    have h2 : lo.map val = lo.map val' := by cases lo <;> simp; exact hv.2 _ (by simp)
    have h3 : hi.map val = hi.map val' := by cases hi <;> simp; exact hv.2 _ (by simp)
    simp only [ev, ← h1, ← h2, ← h3]
  case ia sz x i =>
    simp only [ev, ← hv.1, ← hv.2]
    split
    · rfl
    · rename_i t n k j h1 h2
      rw [ids.1 t (by rw [h1]; simp [V.ids, V.ids1, V.ids0])]
    · rfl
  case app e sz b x y =>
    obtain ⟨i1, i2⟩ := ids
    simp only [ev, ← hv.1, ← hv.2]
    rw [sliceOf_congr (v := val y) i2]
    split
    · split
      · split
        · rfl
        · rename_i t n h1
          rw [i1 t (by rw [h1]; simp [V.ids, V.ids1, V.ids0])]
        · rfl
      · rfl
    · rfl

/-- What one instruction does, the contracts of calls at hand. -/
def Do (C : Con) (id : Nat) (get : Nat → V) (ob : Gt) (op : IOp) (v : V) (u : Upd) : Prop :=
  match op with
  | .call f own xs => ∃ cargs u0 out, passAll ob own 0 (xs.map (valG get)) = some (cargs, u0) ∧ C f cargs out ∧ v = (recv id out).1 ∧ u = u0 ++ (recv id out).2
  | .callv x xs => ∃ ow f caps cargs u0 out, valG get x = .fn f caps ∧ passAll ob ow 0 (xs.map (valG get) ++ caps) = some (cargs, u0) ∧ C f cargs out ∧ v = (recv id out).1 ∧ u = u0 ++ (recv id out).2
  | .inv x ms xs => ∃ t y f cargs u0 out, valG get x = .d (.iface t y) ∧ aget t ms = some f ∧ passAll ob [] 0 (ifV y :: xs.map (valG get)) = some (cargs, u0) ∧ C f cargs out ∧ v = (recv id out).1 ∧ u = u0 ++ (recv id out).2
  | .panic _ => False
  | op => ev id (valG get) ob op = some (v, u)
/-- .. under its guard. -/
def Outc (C : Con) (id : Nat) (get : Nat → V) (ob : Gt) (io : OpI) (v : V) (u : Upd) : Prop :=
  match io.g with
  | none => Do C id get ob io.op v u
  | some (s, want) => ∃ b, get s = .d (.bool b) ∧ (b = want → Do C id get ob io.op v u) ∧ (b ≠ want → v = .dead ∧ u = [])

theorem valG_congr {get get' : Nat → V} {xs : List X} (h : ∀ s ∈ xs.flatMap X.slots, get s = get' s) : ∀ x ∈ xs, valG get x = valG get' x := by
  intro x hx
  cases x with
  | t n => exact h n (List.mem_flatMap.2 ⟨.t n, hx, by simp [X.slots]⟩)
  | c v => rfl
theorem Do_congr {C : Con} {id : Nat} {get get' : Nat → V} {ob ob' : Gt} {op : IOp} {v : V} {u : Upd} (hg : ∀ s ∈ op.xs.flatMap X.slots, get s = get' s) (ho : ∀ t ∈ reads (valG get) op, ob t = ob' t) (h : Do C id get ob op v u) : Do C id get' ob' op v u := by
  have hv := valG_congr hg
  have hev : ev id (valG get) ob op = ev id (valG get') ob' op := ev_congr hv ho
  unfold Do at h ⊢
  split at h
  · rename_i f own xs
    obtain ⟨cargs, u0, out, h1, h2⟩ := h
    refine ⟨cargs, u0, out, ?_, h2⟩
    have hxs : xs.map (valG get) = xs.map (valG get') := List.map_congr_left fun y hy => hv y hy
    rw [← hxs, ← passAll_congr (ob := ob) (ob' := ob')]
    · exact h1
    · intro t ht
      refine ho t ?_
      simp only [List.flatMap_map, List.mem_flatMap] at ht
      obtain ⟨x, hx, ht⟩ := ht
      exact List.mem_flatMap.2 ⟨x, hx, ids1_sub _ t ht⟩
  · rename_i x xs
    obtain ⟨ow, f, caps, cargs, u0, out, h0, h1, h2⟩ := h
    have hx := hv x (by simp [IOp.xs])
    have hxs : xs.map (valG get) = xs.map (valG get') := List.map_congr_left fun y hy => hv y (by simp [IOp.xs, hy])
    refine ⟨ow, f, caps, cargs, u0, out, by rw [← hx]; exact h0, ?_, h2⟩
    rw [← hxs, ← passAll_congr (ob := ob) (ob' := ob')]
    · exact h1
    · intro t ht
      refine ho t ?_
      simp only [List.flatMap_append, List.mem_append] at ht
      simp only [reads, IOp.xs, List.flatMap_cons, List.mem_append]
      rcases ht with ht | ht
      · refine .inr ?_
        simp only [List.flatMap_map, List.mem_flatMap] at ht
        obtain ⟨y, hy, ht⟩ := ht
        exact List.mem_flatMap.2 ⟨y, hy, ids1_sub _ t ht⟩
      · refine .inl ?_
        rw [h0]
        exact ht
  · rename_i x ms xs
    obtain ⟨t, y, f, cargs, u0, out, h0, h00, h1, h2⟩ := h
    have hx := hv x (by simp [IOp.xs])
    have hxs : xs.map (valG get) = xs.map (valG get') := List.map_congr_left fun y hy => hv y (by simp [IOp.xs, hy])
    refine ⟨t, y, f, cargs, u0, out, by rw [← hx]; exact h0, h00, ?_, h2⟩
    rw [← hxs, ← passAll_congr (ob := ob) (ob' := ob')]
    · exact h1
    · intro t ht
      refine ho t ?_
      simp only [List.flatMap_cons, List.mem_append, ifV_ids, List.not_mem_nil, false_or] at ht
      simp only [reads, IOp.xs, List.flatMap_cons, List.mem_append]
      refine .inr ?_
      simp only [List.flatMap_map, List.mem_flatMap] at ht
      obtain ⟨y, hy, ht⟩ := ht
      exact List.mem_flatMap.2 ⟨y, hy, ids1_sub _ t ht⟩
  · exact h.elim
  · rw [← hev]; exact h
theorem Outc_congr {C : Con} {id : Nat} {get get' : Nat → V} {ob ob' : Gt} {io : OpI} {v : V} {u : Upd} (hg : ∀ s ∈ io.looks, get s = get' s) (ho : ∀ t ∈ reads (valG get) io.op, ob t = ob' t) (h : Outc C id get ob io v u) : Outc C id get' ob' io v u := by
  have h1 : ∀ s ∈ io.op.xs.flatMap X.slots, get s = get' s := fun s hs => hg s (by simp [OpI.looks, hs])
  unfold Outc at h ⊢
  split at h
  · exact Do_congr h1 ho h
  · rename_i s want hgd
    obtain ⟨b, e1, e2, e3⟩ := h
    exact ⟨b, by rw [← hg s (by unfold OpI.looks; rw [hgd]; simp)]; exact e1, fun hb => Do_congr h1 ho (e2 hb), e3⟩

/-! ### outcomes, some of them -/
abbrev Outs := List (Option Nat × V × Upd)
def apG (d : Option Nat) (v : V) (get : Nat → V) : Nat → V := fun s => if d = some s then v else get s
def gP (p : Nat → Bool) : Outs → Nat → (Nat → V) → Nat → V
  | [], _, get => get
  | (d, v, _) :: r, k, get => gP p r (k + 1) (if p k then apG d v get else get)
def oP (p : Nat → Bool) : Outs → Nat → Gt → Gt
  | [], _, ob => ob
  | (_, _, u) :: r, k, ob => oP p r (k + 1) (if p k then updf u ob else ob)
theorem gP_congr {p q : Nat → Bool} {s : Nat} : ∀ (outs : Outs) (k : Nat) (get get' : Nat → V), (∀ i d v u, outs[i]? = some (d, v, u) → d = some s → p (k + i) = q (k + i)) → get s = get' s → gP p outs k get s = gP q outs k get' s
  | [], _, _, _, _, h => h
  | (d, v, u) :: r, k, get, get', hw, h => by
    simp only [gP]
    refine gP_congr r (k + 1) _ _ (fun i d' v' u' h1 h2 => by have := hw (i + 1) d' v' u' (by simpa using h1) h2; rwa [show k + (i + 1) = k + 1 + i by omega] at this) ?_
    by_cases hd : d = some s
    · have := hw 0 d v u rfl hd
      simp only [Nat.add_zero] at this
      rw [this]
      cases q k <;> simp [apG, hd, h]
    · cases p k <;> cases q k <;> simp [apG, hd, h]
theorem oP_congr {p q : Nat → Bool} {t : Nat} : ∀ (outs : Outs) (k : Nat) (ob ob' : Gt), (∀ i d v u, outs[i]? = some (d, v, u) → t ∈ u.map (·.1) → p (k + i) = q (k + i)) → ob t = ob' t → oP p outs k ob t = oP q outs k ob' t
  | [], _, _, _, _, h => h
  | (d, v, u) :: r, k, ob, ob', hw, h => by
    simp only [oP]
    refine oP_congr r (k + 1) _ _ (fun i d' v' u' h1 h2 => by have := hw (i + 1) d' v' u' (by simpa using h1) h2; rwa [show k + (i + 1) = k + 1 + i by omega] at this) ?_
    by_cases hd : t ∈ u.map (·.1)
    · have := hw 0 d v u rfl hd
      simp only [Nat.add_zero] at this
      rw [this]
      cases q k
      · simpa using h
      · simpa using updf_congr u h
    · cases p k <;> cases q k <;> simp [updf_other u hd, h]
theorem gP_last {p : Nat → Bool} {s : Nat} {v : V} {u : Upd} : ∀ (outs : Outs) (k i : Nat) (get : Nat → V), outs[i]? = some (some s, v, u) → p (k + i) = true → (∀ j d v' u', i < j → outs[j]? = some (d, v', u') → d = some s → p (k + j) = false) → gP p outs k get s = v
  | [], _, _, _, h, _, _ => by simp at h
  | (d, v', u') :: r, k, 0, get, h, hp, hl => by
    simp at h
    obtain ⟨rfl, rfl, rfl⟩ := h
    simp only [Nat.add_zero] at hp
    simp only [gP, hp, if_true]
    rw [gP_congr (q := fun _ => false) r (k + 1) _ (apG (some s) v' get) (fun i d'' v'' u'' h1 h2 => by have := hl (i + 1) d'' v'' u'' (by omega) (by simpa using h1) h2; rwa [show k + (i + 1) = k + 1 + i by omega] at this) rfl]
    have none : ∀ (r : Outs) (k : Nat) (get : Nat → V), gP (fun _ => false) r k get = get := by
      intro r
      induction r with
      | nil => intros; rfl
      | cons x r ih => intro k get; obtain ⟨a, b, c⟩ := x; simp [gP, ih]
    rw [none]; simp [apG]
  | (d, v', u') :: r, k, i + 1, get, h, hp, hl => by
    simp only [gP]
    exact gP_last r (k + 1) i _ (by simpa using h) (by rwa [show k + 1 + i = k + (i + 1) by omega]) fun j d'' v'' u'' h1 h2 h3 => by
      have := hl (j + 1) d'' v'' u'' (by omega) (by simpa using h2) h3
      rwa [show k + (j + 1) = k + 1 + j by omega] at this
theorem oP_last {p : Nat → Bool} {t : Nat} {d : Option Nat} {v : V} {u : Upd} (ht : t ∈ u.map (·.1)) (X : Gt) : ∀ (outs : Outs) (k i : Nat) (ob : Gt), outs[i]? = some (d, v, u) → p (k + i) = true → (∀ j d' v' u', i < j → outs[j]? = some (d', v', u') → t ∈ u'.map (·.1) → p (k + j) = false) → oP p outs k ob t = updf u X t
  | [], _, _, _, h, _, _ => by simp at h
  | (d, v', u') :: r, k, 0, ob, h, hp, hl => by
    simp at h
    obtain ⟨rfl, rfl, rfl⟩ := h
    simp only [Nat.add_zero] at hp
    simp only [oP, hp, if_true]
    rw [oP_congr (q := fun _ => false) r (k + 1) _ (updf u' ob) (fun i d'' v'' u'' h1 h2 => by have := hl (i + 1) d'' v'' u'' (by omega) (by simpa using h1) h2; rwa [show k + (i + 1) = k + 1 + i by omega] at this) rfl]
    have none : ∀ (r : Outs) (k : Nat) (ob : Gt), oP (fun _ => false) r k ob = ob := by
      intro r
      induction r with
      | nil => intros; rfl
      | cons x r ih => intro k ob; obtain ⟨a, b, c⟩ := x; simp [oP, ih]
    rw [none]
    exact updf_key u' ht
  | (d, v', u') :: r, k, i + 1, ob, h, hp, hl => by
    simp only [oP]
    exact oP_last ht X r (k + 1) i _ (by simpa using h) (by rwa [show k + 1 + i = k + (i + 1) by omega]) fun j d'' v'' u'' h1 h2 h3 => by
      have := hl (j + 1) d'' v'' u'' (by omega) (by simpa using h2) h3
      rwa [show k + (j + 1) = k + 1 + j by omega] at this

/-! ### what a transitive mark says -/
inductive Reach (ops : Array Oper) : Nat → Nat → Prop
  | one {i j : Nat} {o : Oper} {e : Edge} : ops[j]? = some o → e ∈ o.after → Region.binds .any e = true → e.on = i → Reach ops i j
  | more {i k j : Nat} {o : Oper} {e : Edge} : ops[j]? = some o → e ∈ o.after → Region.binds .any e = true → e.on = k → Reach ops i k → Reach ops i j
theorem Reach.listed {ops : Array Oper} {L : Nat → Bool} (hL : ∀ j o e, L j = true → ops[j]? = some o → e ∈ o.after → Region.binds .any e = true → L e.on = true) {i j : Nat} (h : Reach ops i j) : L j = true → L i = true := by
  induction h with
  | one h1 h2 h3 h4 => intro h; exact h4 ▸ hL _ _ _ h h1 h2 h3
  | more h1 h2 h3 h4 _ ih => intro h; exact ih (h4 ▸ hL _ _ _ h h1 h2 h3)
theorem Reach.listed' {ops : Array Oper} {L : Nat → Bool} (hL : ∀ j o e, L j = true → ops[j]? = some o → e ∈ o.after → Region.binds .any e = true → L e.on = true) {i j : Nat} (h : Reach ops i j)
    (hj : ∀ o e, ops[j]? = some o → e ∈ o.after → Region.binds .any e = true → L e.on = true) : L i = true := by
  cases h with
  | one h1 h2 h3 h4 => exact h4 ▸ hj _ _ h1 h2 h3
  | more h1 h2 h3 h4 h5 => exact h5.listed hL (h4 ▸ hj _ _ h1 h2 h3)

def befStep (acc : Array Nat) (o : Oper) : Nat := o.after.foldl (fun s e => if Region.binds .any e then s ||| 2 ^ e.on ||| acc.getD e.on 0 else s) 0
theorem testBit_or_pow (s k a i : Nat) (h : (s ||| 2 ^ k ||| a).testBit i = true) : s.testBit i = true ∨ k = i ∨ a.testBit i = true := by
  simp only [Nat.testBit_or, Bool.or_eq_true, Nat.testBit_two_pow] at h
  rcases h with (h | h) | h
  · exact .inl h
  · exact .inr (.inl (by simpa using h))
  · exact .inr (.inr h)
theorem befStep_spec (acc : Array Nat) (o : Oper) (i : Nat) (h : (befStep acc o).testBit i = true) : ∃ e ∈ o.after, Region.binds .any e = true ∧ (e.on = i ∨ (acc.getD e.on 0).testBit i = true) := by
  unfold befStep at h
  rw [← Array.foldl_toList] at h
  have : ∀ (l : List Edge) (s : Nat), (l.foldl (fun s e => if Region.binds .any e then s ||| 2 ^ e.on ||| acc.getD e.on 0 else s) s).testBit i = true → s.testBit i = true ∨ ∃ e ∈ l, Region.binds .any e = true ∧ (e.on = i ∨ (acc.getD e.on 0).testBit i = true) := by
    intro l
    induction l with
    | nil => intro s h; exact .inl h
    | cons e r ih =>
      intro s h
      simp only [List.foldl_cons] at h
      rcases ih _ h with h | ⟨e', h1, h2⟩
      · split at h
        · rename_i hb
          rcases testBit_or_pow _ _ _ _ h with h | h | h
          · exact .inl h
          · exact .inr ⟨e, by simp, hb, .inl h⟩
          · exact .inr ⟨e, by simp, hb, .inr h⟩
        · exact .inl h
      · exact .inr ⟨e', by simp [h1], h2⟩
  rcases this o.after.toList 0 h with h | ⟨e, h1, h2⟩
  · simp at h
  · exact ⟨e, by simpa using h1, h2⟩
theorem before_reach (ops : Array Oper) : ∀ j i, ((Region.before ops).getD j 0).testBit i = true → Reach ops i j := by
  have key : ∀ (l done : List Oper) (acc : Array Nat), done ++ l = ops.toList → acc.size = done.length → (∀ j i, (acc.getD j 0).testBit i = true → Reach ops i j) →
      ∀ j i, ((l.foldl (fun acc o => acc.push (befStep acc o)) acc).getD j 0).testBit i = true → Reach ops i j := by
    intro l
    induction l with
    | nil => intro done acc _ _ h; exact h
    | cons o r ih =>
      intro done acc hd hs h
      simp only [List.foldl_cons]
      refine ih (done ++ [o]) _ (by simpa using hd) (by simp [hs]) ?_
      intro j i hj
      by_cases hjs : j = acc.size
      · subst hjs
        have hg : (acc.push (befStep acc o)).getD acc.size 0 = befStep acc o := by simp [Array.getD]
        rw [hg] at hj
        obtain ⟨e, h1, h2, h3⟩ := befStep_spec acc o i hj
        have ho : ops[acc.size]? = some o := by
          rw [← Array.getElem?_toList, ← hd, hs]
          simp
        rcases h3 with h3 | h3
        · exact .one ho h1 h2 h3
        · exact .more ho h1 h2 rfl (h _ _ h3)
      · have hg : (acc.push (befStep acc o)).getD j 0 = acc.getD j 0 := by
          by_cases h1 : j < acc.size
          · simp [Array.getD, h1, Array.getElem_push, show j < acc.size + 1 by omega]
          · simp [Array.getD, h1, show ¬ j < acc.size + 1 by omega]
        rw [hg] at hj
        exact h j i hj
  intro j i h
  refine key ops.toList [] #[] rfl rfl (fun j i h => by simp [Array.getD] at h) j i ?_
  unfold Region.before at h
  rw [← Array.foldl_toList] at h
  exact h

section
variable {P : Program} {C : Con} {own : FuncId → List (Nat × TypeId × Nat)} {n : Nat}

theorem SimG.rho {g : G} {w : World} {a : Act} {get : Nat → V} {ob : Gt} {U : Nat → Prop} (h : Sim g w n a get ob U) : ∀ x x', compX x = some x' → RepV g w U (valG get x') (a.eval x) := by
  intro x x' hx
  cases x with
  | tmp t => simp [compX] at hx; subst hx; exact h.slot t
  | const v =>
    obtain ⟨y, h1, rfl⟩ := map_spec hx
    exact repV_constV h1
  | global g => simp [compX] at hx
  | func f => simp [compX] at hx; subst hx; exact ⟨[], rfl, rfl⟩
theorem SimG.next {g g' : G} {w w' : World} {a : Act} {get : Nat → V} {ob : Gt} {d : Option Nat} {v : V} {x : Value} {u : Upd} {U U' : Nat → Prop} (h : Sim g w n a get ob U) (hd : ∀ k, d = some k → k < n) (hs : Step g w ob U g' w' (updf u ob) U')
    (hv : RepV g' w' U' v x) : Sim g' w' n (a.put d x) (apG d v get) (updf u ob) U' where
  defers := by cases d <;> exact h.defers
  size := by cases d <;> simp [Act.put, h.size]
  slot := fun s => by
    rw [getD_put (fun k hk => by rw [h.size]; exact hd k hk)]
    unfold apG
    split
    · exact hv
    · exact RepV.mono hs.le _ _ (h.slot s)
  inv := hs.inv

theorem Do_sound (hC : ∀ f args out, C f args out → TC P f args out) {ops : Array Oper} {bef : Nat} {o : Oper} {io : OpI} (hio : compOper P own ops bef o = some io) (hd : ∀ k, o.dst = some k → k < n)
    {get : Nat → V} {ob : Gt} {U : Nat → Prop} {id : Nat} {g : G} {w : World} {a : Act} (hs : Sim g w n a get ob U) (hid : ∀ k, id ≤ k → k < id + 8 → ¬ U k) {v : V} {u : Upd} (hW : Do C id get ob io.op v u) {K' : Act → World → Prop} {Q : Exit → Act → World → Prop}
    (hK : ∀ g' w' x, Sim g' w' n (a.put o.dst x) (apG o.dst v get) (updf u ob) (fresh8 U id) → Step g w ob U g' w' (updf u ob) (fresh8 U id) → K' (a.put o.dst x) w') : o.wp P a w K' Q := by
  unfold compOper at hio
  split at hio
  · rename_i op hop
    have e2 : io.op = op := by
      split at hio
      · simp at hio; subst hio; rfl
      · split at hio
        · simp at hio; subst hio; rfl
        · simp at hio
    unfold Do at hW
    rw [e2] at hW
    have hρ := SimG.rho hs
    have call : ∀ (f : FuncId) (vs : List V) (us : List Value) (own' : List (Nat × TypeId × Nat)) (cargs : List V) (u0 : Upd) (out : V), (execOp a.eval o).run P w = .ok (.enter f us.toArray) w ∨ callOk P f = false → RepVs g w U vs us →
        passAll ob own' 0 vs = some (cargs, u0) → C f cargs out → v = (recv id out).1 → u = u0 ++ (recv id out).2 → o.wp P a w K' Q := by
      intro f vs us own' cargs u0 out hr hv hp hc e1 e3
      have htc := hC _ _ _ hc
      have hr := hr.resolve_right (by rw [htc.1]; simp)
      unfold Oper.wp
      rw [hr, Oper.upon_enter]
      refine (sound_call hs.inv hid hp hv htc).mono fun e w' h => ?_
      obtain ⟨r, g', rfl, h1, h2⟩ := h
      subst e1 e3
      exact hK g' w' r (SimG.next hs hd h2 h1) h2
    obtain ⟨dst, oop, type, pos, after, guard⟩ := o
    simp only at hop
    split at hW
    · rename_i f ow xs
      obtain ⟨cargs, u0, out, h1, h2, h3, h4⟩ := hW
      obtain ⟨args, argTypes, rfl, hxs⟩ := comp_call hop
      refine call f _ (args.toList.map a.eval) ow cargs u0 out ?_ (compXs_spec hρ hxs) h1 h2 h3 h4
      cases hok : callOk P f with
      | false => exact .inr rfl
      | true =>
        left
        have hr := run_callFunc (w := w) (args := args.map a.eval) hok
        simp only [execOp, resolve, Sem.run_bind, Act.eval, Deferred.ofValue, Sem.run_pure, Result.andThen_ok, invoke, Array.append_empty, Array.empty_append]
        rw [hr]
        congr 2
        apply Array.ext'; simp
    · rename_i x xs
      obtain ⟨ow, f, caps, cargs, u0, out, h0, h1, h2, h3, h4⟩ := hW
      obtain ⟨y, args, argTypes, rfl, hy, hxs⟩ := comp_callv hop
      have hfv := hρ y x hy
      rw [h0] at hfv
      obtain ⟨us, hf1, hf2⟩ := hfv
      refine call f _ (args.toList.map a.eval ++ us) ow cargs u0 out ?_ (repVs_append (compXs_spec hρ hxs) hf2) h1 h2 h3 h4
      cases hok : callOk P f with
      | false => exact .inr rfl
      | true =>
        left
        have hr := run_callFunc (w := w) (args := args.map a.eval ++ us.toArray) hok
        simp only [execOp, resolve, Sem.run_bind, hf1, Deferred.ofValue, Sem.run_pure, Result.andThen_ok, invoke, Array.empty_append]
        rw [hr]
        congr 2
        apply Array.ext'; simp
    · rename_i x ms xs
      obtain ⟨t, y, f, cargs, u0, out, h0, h00, h1, h2, h3, h4⟩ := hW
      obtain ⟨z, m, args, argTypes, rfl, hz, hms, hxs⟩ := comp_inv hop
      have hfv := hρ z x hz
      rw [h0] at hfv
      obtain ⟨yv, hf1, hf2⟩ := hfv
      refine call f (ifV y :: xs.map (valG get)) (yv :: args.toList.map a.eval) [] cargs u0 out ?_ ⟨_, _, rfl, ifV_rep hf2, compXs_spec hρ hxs⟩ h1 h2 h3 h4
      cases hok : callOk P f with
      | false => exact .inr rfl
      | true =>
        left
        exact run_inv hf1 (by rw [hms] at h00; exact resolveMs_spec h00) hok
    · exact hW.elim
    · obtain ⟨x, w', g', h1, h2, h3⟩ := ev_sound (P := P) (own := own) (o := ⟨dst, oop, type, pos, after, guard⟩) hop (fun _ => rfl) hρ hs.inv (hid _ (Nat.le_refl _) (by omega)) hW
      have hk' := hK g' w' x (SimG.next hs hd h3 h2) h3
      unfold Oper.wp
      rcases h1 with h1 | ⟨h1, rfl⟩
      · rw [h1]; exact hk'
      · rw [h1]; exact hk'
  · simp at hio

theorem guard_simG {ops : Array Oper} {bef : Nat} {o : Oper} {io : OpI} (hio : compOper P own ops bef o = some io) {g : G} {w : World} {a : Act} {get : Nat → V} {ob : Gt} {U : Nat → Prop} (hs : Sim g w n a get ob U) :
    (io.g = none → Region.wanted o (yielded ops a.tmps) = true) ∧
    (∀ s want b, io.g = some (s, want) → get s = .d (.bool b) → s < n → Region.wanted o (yielded ops a.tmps) = decide (b = want)) ∧
    (∀ s want, io.g = some (s, want) → Bars want (get s) → s < n → Region.wanted o (yielded ops a.tmps) = false) ∧ io.d = o.dst := by
  unfold compOper at hio
  split at hio
  · split at hio
    · rename_i hg
      simp at hio; subst hio
      exact ⟨fun _ => by simp [Region.wanted, hg], by simp, by simp, rfl⟩
    · rename_i j want hg
      split at hio
      · rename_i s hj
        simp at hio; subst hio
        have key : ∀ b, get s = .d (.bool b) → s < n → Region.wanted o (yielded ops a.tmps) = decide (b = want) := by
         intro b h2 h3
         have hv := hs.slot s
         rw [h2] at hv
         simp [RepV, RepD] at hv
         have hlt : s < a.tmps.size := by rw [hs.size]; exact h3
         have hy : yielded ops a.tmps j = some b := by
           unfold yielded
           rw [hj]
           simp only [Option.bind_some]
           have : a.tmps[s]? = some (.bool b) := by
             rw [Array.getElem?_eq_getElem hlt]
             simp [Array.getD, hlt] at hv
             rw [hv]
           rw [this]
         simp only [Region.wanted, hg, hy]
         cases b <;> cases want <;> rfl
        refine ⟨by simp, fun s' want' b h1 h2 h3 => ?_, fun s' want' h1 h2 h3 => ?_, rfl⟩
        · simp at h1
          obtain ⟨rfl, rfl⟩ := h1
          exact key b h2 h3
        · simp at h1
          obtain ⟨rfl, rfl⟩ := h1
          rcases h2 with ⟨b, h2, hne⟩ | h2
          · rw [key b h2 h3]; simp [hne]
          · have hv := hs.slot s
            rw [h2] at hv
            obtain ⟨us, hv, hu⟩ := hv
            simp [RepVs] at hu; subst hu
            have hlt : s < a.tmps.size := by rw [hs.size]; exact h3
            have hy : yielded ops a.tmps j = none := by
              unfold yielded
              rw [hj]
              simp only [Option.bind_some]
              have : a.tmps[s]? = some (.tuple #[]) := by
                rw [Array.getElem?_eq_getElem hlt]
                simp [Array.getD, hlt] at hv
                rw [hv]
              rw [this]
            simp only [Region.wanted, hg, hy]
            cases want <;> rfl
      · simp at hio
  · simp at hio

/-- What is known of number i in the order of the text. -/
def Fact (C : Con) (base : Nat) (outs : Outs) (tr : Trace) (get0 : Nat → V) (ob0 : Gt) (i : Nat) (io : OpI) : Prop :=
  ∃ d v u rd, outs[i]? = some (d, v, u) ∧ tr[i]? = some (rd, u.map (·.1)) ∧ d = io.d ∧
    (((io.g = none ∨ ∃ s want, io.g = some (s, want) ∧ gP (fun j => decide (j < i)) outs 0 get0 s = .d (.bool want)) ∧
        Do C (base + 8 * i) (gP (fun j => decide (j < i)) outs 0 get0) (oP (fun j => decide (j < i)) outs 0 ob0) io.op v u ∧ rd = reads (valG (gP (fun j => decide (j < i)) outs 0 get0)) io.op) ∨
     (∃ s want, io.g = some (s, want) ∧ Bars want (gP (fun j => decide (j < i)) outs 0 get0 s) ∧ v = .tup [] ∧ u = []))

theorem gP_shift (p : Nat → Bool) : ∀ (outs : Outs) (k : Nat) (get : Nat → V), gP p outs (k + 1) get = gP (fun j => p (j + 1)) outs k get
  | [], _, _ => rfl
  | (d, v, u) :: r, k, get => by simp only [gP]; exact gP_shift p r (k + 1) _
theorem oP_shift (p : Nat → Bool) : ∀ (outs : Outs) (k : Nat) (ob : Gt), oP p outs (k + 1) ob = oP (fun j => p (j + 1)) outs k ob
  | [], _, _ => rfl
  | (d, v, u) :: r, k, ob => by simp only [oP]; exact oP_shift p r (k + 1) _

theorem Wdraw_outs {K : Trace → St → Prop} : ∀ (ios : List OpI) (tr0 : Trace) (st : St), Wdraw C K ios tr0 st →
    ∃ (outs : Outs) (tr : Trace) (st' : St), K (tr0 ++ tr) st' ∧ outs.length = ios.length ∧ tr.length = ios.length ∧ st'.nx = st.nx + 8 * ios.length ∧
      (∀ s, st'.get s = gP (fun _ => true) outs 0 st.get s) ∧ (st'.obf = oP (fun _ => true) outs 0 st.obf) ∧ ∀ i io, ios[i]? = some io → Fact C st.nx outs tr st.get st.obf i io
  | [], tr0, st, h => ⟨[], [], st, by simpa [Wdraw] using h, rfl, rfl, rfl, fun _ => rfl, rfl, by simp⟩
  | io :: r, tr0, st, h => by
    -- one step, then the rest
    have go : ∀ (v : V) (u : Upd) (rd : List Nat), Wdraw C K r (tr0 ++ [(rd, u.map (·.1))]) (st.step io.d v u) →
        (((io.g = none ∨ ∃ s want, io.g = some (s, want) ∧ st.get s = .d (.bool want)) ∧ Do C st.nx st.get st.obf io.op v u ∧ rd = reads (valG st.get) io.op) ∨ (∃ s want, io.g = some (s, want) ∧ Bars want (st.get s) ∧ v = .tup [] ∧ u = [])) →
        ∃ (outs : Outs) (tr : Trace) (st' : St), K (tr0 ++ tr) st' ∧ outs.length = (io :: r).length ∧ tr.length = (io :: r).length ∧ st'.nx = st.nx + 8 * (io :: r).length ∧
          (∀ s, st'.get s = gP (fun _ => true) outs 0 st.get s) ∧ (st'.obf = oP (fun _ => true) outs 0 st.obf) ∧ ∀ i io', (io :: r)[i]? = some io' → Fact C st.nx outs tr st.get st.obf i io' := by
      intro v u rd hw hf
      obtain ⟨outs, tr, st', k1, k2, k3, k4, k5, k6, k7⟩ := Wdraw_outs r _ _ hw
      have hget : (st.step io.d v u).get = apG io.d v st.get := funext fun s => get_put st io.d v u s
      have hobf : (st.step io.d v u).obf = updf u st.obf := obf_step st io.d v u
      have hg : ∀ (q : Nat → Bool), q 0 = true → gP q ((io.d, v, u) :: outs) 0 st.get = gP (fun j => q (j + 1)) outs 0 (st.step io.d v u).get := fun q hq => by
        simp only [gP, hq, if_true]
        rw [gP_shift, hget]
      have ho : ∀ (q : Nat → Bool), q 0 = true → oP q ((io.d, v, u) :: outs) 0 st.obf = oP (fun j => q (j + 1)) outs 0 (st.step io.d v u).obf := fun q hq => by
        simp only [oP, hq, if_true]
        rw [oP_shift, hobf]
      refine ⟨(io.d, v, u) :: outs, (rd, u.map (·.1)) :: tr, st', by simpa using k1, by simp [k2], by simp [k3], ?_, ?_, ?_, ?_⟩
      · rw [k4]; simp only [St.step, List.length_cons]; omega
      · intro s; rw [hg _ rfl]; exact k5 s
      · rw [ho _ rfl]; exact k6
      · intro i io' hi
        cases i with
        | zero =>
          simp at hi; subst hi
          have z1 : gP (fun j => decide (j < 0)) ((io.d, v, u) :: outs) 0 st.get = st.get := by
            funext s
            have : ∀ (o : Outs) (k : Nat) (get : Nat → V), gP (fun j => decide (j < 0)) o k get = get := by
              intro o
              induction o with
              | nil => intros; rfl
              | cons x r ih => intro k get; obtain ⟨a, b, c⟩ := x; simp only [gP]; rw [ih]; simp
            rw [this]
          have z2 : oP (fun j => decide (j < 0)) ((io.d, v, u) :: outs) 0 st.obf = st.obf := by
            have : ∀ (o : Outs) (k : Nat) (ob : Gt), oP (fun j => decide (j < 0)) o k ob = ob := by
              intro o
              induction o with
              | nil => intros; rfl
              | cons x r ih => intro k ob; obtain ⟨a, b, c⟩ := x; simp only [oP]; rw [ih]; simp
            rw [this]
          refine ⟨io.d, v, u, rd, rfl, rfl, rfl, ?_⟩
          rw [z1, z2]
          exact hf
        | succ i =>
          obtain ⟨d', v', u', rd', a1, a2, a3, a4⟩ := k7 i io' (by simpa using hi)
          refine ⟨d', v', u', rd', by simpa using a1, by simpa using a2, a3, ?_⟩
          rw [hg (fun j => decide (j < i + 1)) (by simp), ho (fun j => decide (j < i + 1)) (by simp)]
          have e1 : (fun j => decide (j + 1 < i + 1)) = fun j => decide (j < i) := by funext j; simp
          rw [e1]
          have e2 : st.nx + 8 * (i + 1) = (st.step io.d v u).nx + 8 * i := by simp only [St.step]; omega
          rw [e2]
          exact a4
    have one : (io.g = none ∨ ∃ s want, io.g = some (s, want) ∧ st.get s = .d (.bool want)) → Wd1 C st io (fun wr st' => Wdraw C K r (tr0 ++ [(reads st.val io.op, wr)]) st') →
        ∃ (outs : Outs) (tr : Trace) (st' : St), K (tr0 ++ tr) st' ∧ outs.length = (io :: r).length ∧ tr.length = (io :: r).length ∧ st'.nx = st.nx + 8 * (io :: r).length ∧
          (∀ s, st'.get s = gP (fun _ => true) outs 0 st.get s) ∧ (st'.obf = oP (fun _ => true) outs 0 st.obf) ∧ ∀ i io', (io :: r)[i]? = some io' → Fact C st.nx outs tr st.get st.obf i io' := by
      intro hg hw
      have : ∃ v u, Do C st.nx st.get st.obf io.op v u ∧ Wdraw C K r (tr0 ++ [(reads st.val io.op, u.map (·.1))]) (st.step io.d v u) := by
        unfold Wd1 at hw
        rw [val_eq] at hw ⊢
        split at hw
        · rename_i f ow xs hop
          split at hw
          · rename_i cargs u0 hp
            obtain ⟨out, hc, hk⟩ := hw
            refine ⟨_, _, ?_, hk⟩
            rw [hop]
            exact ⟨cargs, u0, out, hp, hc, rfl, rfl⟩
          · exact hw.elim
        · rename_i x xs hop
          split at hw
          · rename_i f caps hv
            obtain ⟨ow, hw⟩ := hw
            split at hw
            · rename_i cargs u0 hp
              obtain ⟨out, hc, hk⟩ := hw
              refine ⟨_, _, ?_, hk⟩
              rw [hop]
              exact ⟨ow, f, caps, cargs, u0, out, hv, hp, hc, rfl, rfl⟩
            · exact hw.elim
          · exact hw.elim
        · rename_i x ms xs hop
          split at hw
          · rename_i t y hv
            split at hw
            · rename_i f hf
              split at hw
              · rename_i cargs u0 hp
                obtain ⟨out, hc, hk⟩ := hw
                refine ⟨_, _, ?_, hk⟩
                rw [hop]
                exact ⟨t, y, f, cargs, u0, out, hv, hf, hp, hc, rfl, rfl⟩
              · exact hw.elim
            · exact hw.elim
          · exact hw.elim
        · exact hw.elim
        · rename_i h1 h2 h4 h3
          split at hw
          · rename_i v u he
            refine ⟨v, u, ?_, hw⟩
            unfold Do
            split
            · rename_i hop; exact absurd hop (h1 _ _ _)
            · rename_i hop; exact absurd hop (h2 _ _)
            · rename_i hop; exact absurd hop (h4 _ _ _)
            · rename_i hop; exact absurd hop (h3 _)
            · exact he
          · exact hw.elim
      obtain ⟨v, u, hdo, hw'⟩ := this
      exact go v u _ hw' (.inl ⟨hg, hdo, by rw [val_eq]⟩)
    simp only [Wdraw] at h
    split at h
    · rename_i hg
      exact one (.inl hg) h
    · rename_i s want hg
      split at h
      · rename_i b hb
        split at h
        · rename_i hw
          subst hw
          exact one (.inr ⟨s, b, hg, hb⟩) h
        · rename_i hw
          exact go (.tup []) [] [] h (.inr ⟨s, want, hg, .inl ⟨b, hb, hw⟩, rfl, rfl⟩)
      · rename_i hb
        exact go (.tup []) [] [] h (.inr ⟨s, want, hg, .inr hb, rfl, rfl⟩)
      · exact h.elim
end
end Go.Vk
