/- Each instruction's ideal outcome is what the machine does: literals, appends. -/
import Derived.Test.YtbdohnigbnhjnaaVkOps
set_option linter.unusedSimpArgs false
set_option linter.unusedVariables false
set_option linter.unusedSectionVars false
namespace Go.Vk
section
variable {P : Program} {g : G} {w : World} {ob : Gt} {U : Nat → Prop} {id : Nat}

/-! ### literals -/
theorem repVs_cellsOk {x : V} {v : Value} (h : RepV g w U x v) (hok : x.cells.all V.cellOk = true) : RepVs g w U x.cells v.cells.toList := by
  refine repV_cells h (fun e => ?_) fun d e => ?_
  · subst e; simp [V.cells, V.cellOk] at hok
  · subst e; simp [V.cells, V.cellOk] at hok

theorem fill_cons {place : Nat → Option (Nat × Nat)} {cells : Array Value} {i off n : Nat} {v : Value} {rest : List (Nat × Value)} (h1 : place i = some (off, n)) (h2 : v.cells.size = n) (h3 : off + n ≤ cells.size) :
    Instr.fill place cells ((i, v) :: rest) = Instr.fill place (splice cells.toList off v.cells.toList).toArray rest := by
  have hc : (decide (v.cells.size ≠ n) || decide (off + v.cells.size > cells.size)) = false := by simp; omega
  have hz : (v.cells.zipIdx.foldl (fun cs (c, j) => cs.setIfInBounds (off + j) c) cells) = (splice cells.toList off v.cells.toList).toArray := by
    rw [← toList_foldl_set off v.cells.toList cells (by simp; omega), Array.toArray_toList, ← Array.foldl_toList, Array.toList_zipIdx]
  simp only [Instr.fill, h1, hc, Bool.false_eq_true, if_false, hz]

theorem place_sound (place : Nat → Option (Nat × Nat)) {ρ : Operand → Value} {val : X → V} (hρ : ∀ x x', compX x = some x' → RepV g w U (val x') (ρ x)) :
    ∀ (ps : List (Nat × Operand)) (qs : List (Nat × Nat × X)) (zs cs : List V) (zv : List Value), compParts place ps = some qs → placeV zs (qs.map fun p => (p.1, p.2.1, val p.2.2)) = some cs → RepVs g w U zs zv →
      ∃ r : List Value, Instr.fill place zv.toArray (ps.map fun p => (p.1, ρ p.2)) = some r.toArray ∧ RepVs g w U cs r
  | [], qs, zs, cs, zv, h, hp, hr => by
    simp [compParts] at h; subst h
    simp [placeV] at hp; subst hp
    exact ⟨zv, rfl, hr⟩
  | (i, x) :: rest, qs, zs, cs, zv, h, hp, hr => by
    simp only [compParts] at h
    split at h
    · rename_i off n x' qs' h1 h2 h3
      simp at h; subst h
      simp only [List.map_cons, placeV] at hp
      split at hp
      · rename_i hc
        obtain ⟨c1, c2, c3⟩ := hc
        have hv := repVs_cellsOk (hρ x x' h2) c3
        have hlv := repVs_length hv
        have hlz := repVs_length hr
        have hs : (ρ x).cells.size = n := by simp at hlv; omega
        obtain ⟨r, e1, e2⟩ := place_sound place hρ rest qs' _ cs _ h3 hp (repVs_splice off hr hv)
        refine ⟨r, ?_, e2⟩
        rw [List.map_cons, fill_cons h1 hs (by simp; omega)]
        exact e1
      · simp at hp
    · simp at h

theorem placeD_sound (place : Nat → Option (Nat × Nat)) {ρ : Operand → Value} {val : X → V} :
    ∀ (ps : List (Nat × Operand)) (qs : List (Nat × Nat × X)) (zs cs : List D) (zv : List Value) (u : Upd) (g : G) (ob : Gt), (∀ x x', compX x = some x' → RepV g w U (val x') (ρ x)) →
      compParts place ps = some qs → placeD ob zs (qs.map fun p => (p.1, p.2.1, val p.2.2)) = some (cs, u) → RepL g.fr w zs zv → (∀ x ∈ zs, V.cellOk (.d x) = true) → Inv g w ob U →
      ∃ (r : List Value) (g' : G), (∀ x ∈ cs, V.cellOk (.d x) = true) ∧ Instr.fill place zv.toArray (ps.map fun p => (p.1, ρ p.2)) = some r.toArray ∧ RepL g'.fr w cs r ∧ Step g w ob U g' w (updf u ob) U
  | [], qs, zs, cs, zv, u, g, ob, hρ, h, hp, hr, hz, hI => by
    simp [compParts] at h; subst h
    simp [placeD] at hp
    obtain ⟨rfl, rfl⟩ := hp
    exact ⟨zv, g, hz, rfl, hr, .same hI (.inl rfl) (fun _ h => h) fun _ _ h => h⟩
  | (i, x) :: rest, qs, zs, cs, zv, u, g, ob, hρ, h, hp, hr, hz, hI => by
    simp only [compParts] at h
    split at h
    · rename_i off n x' qs' h1 h2 h3
      simp at h; subst h
      simp only [List.map_cons, placeD] at hp
      split at hp
      · rename_i new u1 hn
        split at hp
        · rename_i hc
          obtain ⟨c1, c2⟩ := hc
          split at hp
          · rename_i zs' u' hr'
            simp at hp
            obtain ⟨rfl, rfl⟩ := hp
            have hx := hρ x x' h2
            have hv : RepVs g w U (val x').cells (ρ x).cells.toList := by
              refine repV_cells hx (fun e => ?_) fun d e => ?_
              · rw [e] at hn; simp [V.cells, V.toDs, V.toD1] at hn
              · rw [e] at hn; simp [V.cells, V.toDs, V.toD1] at hn
            obtain ⟨hnok, g1, hs1, hr1⟩ := toDs_sound hn hv hI
            have hlv := repL_length hr1
            have hlz := repL_length hr
            have hs : (ρ x).cells.size = n := by simp at hlv; omega
            have same : ∀ (us : Upd) (ob : Gt) (vs : List V) (ds : List D), V.toDs ob vs = some (ds, us) → ∀ v, V.toD1 (updf us ob) v = V.toD1 ob v := by
              intro us ob vs
              induction vs generalizing us ob with
              | nil => intro ds h v; simp [V.toDs] at h; obtain ⟨rfl, rfl⟩ := h; rfl
              | cons a r ih =>
                intro ds h v
                simp only [V.toDs] at h
                split at h
                · rename_i d0 u0 e0
                  split at h
                  · rename_i ds1 us1 e1
                    simp at h
                    obtain ⟨rfl, rfl⟩ := h
                    rw [updf_append]
                    have e1' : V.toDs (updf u0 ob) r = some (ds1, us1) := by
                      rcases toD1_upd e0 with e | ⟨t, e⟩
                      · rw [e]; exact e1
                      · rw [e, toDs_com]; exact e1
                    rw [ih us1 (updf u0 ob) ds1 e1' v]
                    rcases toD1_upd e0 with e | ⟨t, e⟩
                    · rw [e]
                    · rw [e, toD1_com]
                  · simp at h
                · simp at h
            have same1 := same u1 ob (val x').cells new hn
            have sameD : ∀ vs, V.toDs (updf u1 ob) vs = V.toDs ob vs := by
              intro vs
              induction vs with
              | nil => rfl
              | cons a r ih => simp only [V.toDs, same1, ih]
            have sameP : ∀ (qs : List (Nat × Nat × V)) (zs : List D), placeD (updf u1 ob) zs qs = placeD ob zs qs := by
              intro qs
              induction qs with
              | nil => intro zs; rfl
              | cons a r ih => intro zs; obtain ⟨a1, a2, a3⟩ := a; simp only [placeD, sameD, ih]
            obtain ⟨r, g2, e0, e1, e2, e3⟩ := placeD_sound place rest qs' _ _ (splice zv off (ρ x).cells.toList) u' g1 (updf u1 ob) (fun y y' hy => RepV.mono hs1.le _ _ (hρ y y' hy)) h3 (by rw [sameP]; exact hr')
              (repL_splice off (RepL.mono hs1.le.ext _ _ hr) hr1) (fun x hx => by
                unfold splice at hx
                rcases List.mem_append.1 hx with hx | hx
                · exact hz x (List.mem_of_mem_take hx)
                · rcases List.mem_append.1 hx with hx | hx
                  · exact hnok x hx
                  · exact hz x (List.mem_of_mem_drop hx)) hs1.inv
            refine ⟨r, g2, e0, ?_, e2, ?_⟩
            · rw [List.map_cons, fill_cons h1 hs (by simp; omega)]
              exact e1
            · rw [updf_append]; exact hs1.trans e3
          · simp at hp
        · simp at hp
      · simp at hp
    · simp at h

theorem elemInfo_spec {t e : TypeId} {i : TypeInfo} {z : Value} {ds : List D} (h : elemInfo P t = some (e, i, z, ds)) :
    P.underlying t = some (.slice e) ∧ P.info? e = some i ∧ i.zero = some z ∧ (constCs z.cells.toList).bind datas = some ds ∧ ds.length = i.size ∧ 0 < i.size ∧ z.cells.size = i.size := by
  unfold elemInfo at h
  split at h
  · rename_i e' hu
    split at h
    · rename_i i' hi
      split at h
      · rename_i z' hz
        split at h
        · rename_i ds' hd
          split at h
          · rename_i hc
            simp at h
            obtain ⟨rfl, rfl, rfl, rfl⟩ := h
            exact ⟨hu, hi, hz, hd, hc.1, hc.2.1, hc.2.2⟩
          · simp at h
        · simp at h
      · simp at h
    · simp at h
  · simp at h
theorem zero_rep {z : Value} {ds : List D} (h : (constCs z.cells.toList).bind datas = some ds) : RepL g.fr w ds z.cells.toList ∧ ∀ d ∈ ds, V.cellOk (.d d) = true := by
  cases hc : constCs z.cells.toList with
  | none => simp [hc] at h
  | some xs =>
    simp [hc] at h
    exact repL_datas (U := fun _ => True) h (repVs_constCs hc)
theorem madeCells_flat (z : Array Value) (n : Nat) : ((Array.range (n * z.size)).map (z[· % z.size]!)).toList = List.flatten (List.replicate n z.toList) := by
  induction n with
  | zero => simp
  | succ n ih =>
    rw [List.replicate_succ', List.flatten_append, ← ih]
    apply List.ext_getElem?
    intro k
    have e : (n + 1) * z.size = n * z.size + z.size := Nat.succ_mul n z.size
    by_cases h1 : k < n * z.size
    · rw [List.getElem?_append_left (by simp; exact h1)]
      simp [h1, show k < (n + 1) * z.size by omega]
    · rw [List.getElem?_append_right (by simp; omega)]
      simp only [Array.toList_map, Array.toList_range, List.length_map, List.length_range, List.flatten_cons, List.flatten_nil, List.append_nil]
      by_cases h2 : k < n * z.size + z.size
      · have hm : k % z.size = k - n * z.size := by
          have : k = z.size * n + (k - n * z.size) := by rw [Nat.mul_comm z.size n]; omega
          conv => lhs; rw [this]
          rw [Nat.mul_add_mod]
          exact Nat.mod_eq_of_lt (by omega)
        have hlt : k - n * z.size < z.size := by omega
        simp [show k < (n + 1) * z.size by omega, hm, hlt]
      · simp [show ¬ k < (n + 1) * z.size by omega, show z.size ≤ k - n * z.size by omega]
theorem repL_zeros {ds : List D} {us : List Value} {fr : Nat → Nat} (h : RepL fr w ds us) : ∀ n : Nat, RepL fr w (zeroCs ds n) (List.flatten (List.replicate n us))
  | 0 => rfl
  | n + 1 => by
    have := repL_append h (repL_zeros h n)
    simpa [zeroCs, List.replicate_succ] using this
theorem zeroCs_length (ds : List D) (n : Nat) : (zeroCs ds n).length = n * ds.length := by simp [zeroCs]

theorem maxLen_24 : 2 ^ 24 ≤ maxLen := by decide

theorem sound_bsl {t e : TypeId} {len : Nat} {i : TypeInfo} {z : Value} {ds cs : List D} {u : Upd} {parts : Array (Nat × Operand)} {qs : List (Nat × Nat × X)} {ρ : Operand → Value} {val : X → V} (hI : Inv g w ob U) (hid : ¬ U id)
    (hρ : ∀ x x', compX x = some x' → RepV g w U (val x') (ρ x)) (he : elemInfo P t = some (e, i, z, ds)) (hsmall : len * i.size ≤ 2 ^ 24)
    (hps : compParts (fun j => some (j * i.size, i.size)) parts.toList = some qs) (hp : placeD ob (zeroCs ds len) (qs.map fun p => (p.1, p.2.1, val p.2.2)) = some (cs, u)) (hl : cs.length = len * i.size) :
    Good (((do pure (.value (← Instr.buildSlice t len (parts.map fun (i, x) => (i, ρ x))))) : Sem Next).run P w) (.own id len) g w ob U (updf (u ++ [(id, some (.vec false e i.size len cs))]) ob) (fresh8 U id) := by
  obtain ⟨h1, h2, h3, h4, h5, h6, h7⟩ := elemInfo_spec he
  obtain ⟨hz, hzok⟩ := zero_rep (g := g) (w := w) h4
  have hz2 := repL_zeros hz len
  have hmade : ((Array.range (len * i.size)).map (z.cells[· % z.cells.size]!)) = (List.flatten (List.replicate len z.cells.toList)).toArray := by
    rw [← h7, ← madeCells_flat]
  obtain ⟨r, g1, e0, e1, e2, e3⟩ := placeD_sound (fun j => some (j * i.size, i.size)) parts.toList qs _ cs _ u g ob hρ hps hp hz2 (fun x hx => by
    obtain ⟨l, hl1, hl2⟩ := List.mem_flatten.1 hx
    exact hzok x (by rw [(List.mem_replicate.1 hl1).2] at hl2; exact hl2)) hI
  have hr := repL_length e2
  have hmap : (parts.map fun (i, x) => (i, ρ x)).toList = parts.toList.map fun p => (p.1, ρ p.2) := by simp
  have hrun : (Instr.buildSlice t len (parts.map fun (i, x) => (i, ρ x))).run P w = .ok (.slice (some ⟨w.heap.size, 0, none⟩) len len) (w.alloc (.cells r.toArray e)) := by
    by_cases h0 : len * i.size = 0
    · have hlen : len = 0 := by
        rcases Nat.mul_eq_zero.1 h0 with h | h
        · exact h
        · omega
      subst hlen
      have hr0 : r = [] := List.eq_nil_of_length_eq_zero (by rw [hr, hl]; simp)
      simp only [List.replicate_zero, List.flatten_nil] at e1
      have hz0 : Array.map (fun _ => (default : Value)) (Array.range 0) = [].toArray := by simp
      have e1' : Instr.fill (fun i_1 => some (i_1 * i.size, i.size)) [].toArray (List.map (fun x => (x.fst, ρ x.snd)) parts.toList) = some [].toArray := by rw [e1, hr0]
      simp [Instr.buildSlice, run_underlying h1, sizeOf, typeInfo, h2]
      rw [hz0, e1', hr0]
      simp [newRow]
    · refine run_buildSlice w t e len _ _ i z h1 h2 h3 (by omega) h0 ?_
      rw [hmade, hmap]
      exact e1
  obtain ⟨g2, hs2, hv2⟩ := step_row (sz := i.size) (cur := r.toArray) (len := len) (cap := len) (w1 := w) e e3.inv hid (.inl rfl) e2 ⟨hl, e0⟩ h6 (Nat.le_refl _) (Nat.le_trans (Nat.le_mul_of_pos_right len h6) (Nat.le_trans hsmall maxLen_24))
    (by simp [hr, hl]) (by rw [← hl, ← hr]; simp)
  refine ⟨_, _, g2, .inl (run_v hrun), ⟨fresh8_id, hv2.symm, _, _, rfl⟩, ?_⟩
  have := e3.trans hs2
  rw [updf_append]
  exact this

/-! ### reading slices -/
theorem sliceOf_sound {v : V} {n : Nat} {cs : List D} {u : Value} (h : v.sliceOf ob = some (n, cs)) (hv : RepV g w U v u) (hI : Inv g w ob U) :
    ∃ a cap us, u = .slice a n cap ∧ (n ≤ cap ∧ ∀ x ∈ cs, V.cellOk (.d x) = true) ∧ RepL g.fr w cs us ∧ (cs = [] ∨ ∃ b off, a = some ⟨b, off, none⟩ ∧ ∀ i x, us[i]? = some x → w.cell? ⟨b, off + i, none⟩ = some x) := by
  unfold V.sliceOf at h
  split at h
  · rename_i m ds
    simp at h
    obtain ⟨rfl, rfl⟩ := h
    obtain ⟨a, cap, rfl, h2, h3⟩ := hv
    rcases h3 with h3 | ⟨b, off, rfl, h4⟩
    · subst h3; exact ⟨a, cap, [], rfl, h2, rfl, .inl rfl⟩
    · obtain ⟨us, h5, h6, h7⟩ := repAt_vals h4
      exact ⟨_, cap, us, rfl, h2, h6, .inr ⟨b, off, rfl, h7⟩⟩
  · simp at h
    obtain ⟨rfl, rfl⟩ := h
    obtain ⟨a, rfl⟩ := hv
    exact ⟨a, 0, [], rfl, ⟨Nat.le_refl _, by simp⟩, rfl, .inl rfl⟩
  · rename_i t len
    split at h
    · rename_i com e sz l ds ho
      split at h
      · rename_i hl
        subst hl
        simp at h
        obtain ⟨rfl, rfl⟩ := h
        obtain ⟨_, hval, a, c, hs⟩ := hv
        obtain ⟨_, h1, h2, h3⟩ := hI.rep t _ ho
        rcases h3 with ⟨a', h3, h4⟩ | ⟨cap, cur, us, a1, a2, a3, a4, a5, a6, a7, a8, _⟩
        · subst h4
          have : ds = [] := List.eq_nil_of_length_eq_zero (by simpa using h1.1)
          subst this
          exact ⟨a', 0, [], hval.trans h3, ⟨Nat.le_refl _, by simp⟩, rfl, .inl rfl⟩
        · refine ⟨_, cap, us, hval.trans a1, ⟨a4, h1.2⟩, a8, .inr ⟨g.ph t, 0, rfl, fun i x hx => ?_⟩⟩
          rw [Nat.zero_add]
          refine ext_cell a3 ?_
          rw [← a7, List.getElem?_take] at hx
          split at hx
          · exact hx
          · cases hx
      · simp at h
    · simp at h
  · simp at h

theorem run_append_zero {t ty e : TypeId} {i : TypeInfo} (ht : P.underlying t = some (.slice e)) (hi : P.info? e = some i) (base : Option Addr) (n cap : Nat) (sa : Option Addr) (c : Nat) (h : n ≤ cap) :
    (Builtin.append_ #[t, t] ty #[.slice base n cap, .slice sa 0 c]).run P w = .ok (.slice base n cap) w := by
  cases sa <;> cases base <;> simp [Builtin.append_, run_underlying ht, sizeOf, typeInfo, hi, Builtin.lenOf, Builtin.firstCells, h, storeCells, loadCells, loadCellsFrom]
theorem run_append_nils {t ty e : TypeId} {i : TypeInfo} {z : Value} (ht : P.underlying t = some (.slice e)) (hi : P.info? e = some i) (hz : i.zero = some z) (base : Option Addr)
    (a : Addr) (n c : Nat) (news : List Value) (hl : news.length = n * i.size) (hnews : ∀ j v, news[j]? = some v → w.cell? (a.add j) = some v) (h0 : 0 < n) (hb : n * i.bytes ≤ 140737488355328) (h63 : n ≤ maxLen) :
    (Builtin.append_ #[t, t] ty #[.slice base 0 0, .slice (some a) n c]).run P w =
      .ok (.slice (some ⟨w.heap.size, 0, none⟩) n (grownCap w n 0 e)) (w.drew.alloc (.cells (news.toArray ++ Builtin.zeroCells z.cells (grownCap w n 0 e - n)) e)) := by
  have h63' : (n : Int) ≤ 9223372036854775807 := by simp only [maxLen] at h63; omega
  cases base with
  | none => exact run_append_nil w t ty e i z ht hi hz a n c news hl hnews h0 h63' (by omega)
  | some b =>
    have := run_append_grow (P := P) w t ty e i z ht hi hz b 0 0 [] (by simp) (by simp) a n c news hl hnews (by omega) (by simpa using h63') (growslice_fits (by omega) (by simpa using hb))
    simpa using this

/-- A new row in a drawn world, in the place of an object that goes, committed or not. -/
theorem step_grow {com : Bool} {len cap sz t : Nat} {cs : List D} {us : List Value} {cur : Array Value} (e : TypeId) (hI : Inv g w ob U) (hid : ¬ U id) (hr : RepL g.fr w cs us)
    (h1 : cs.length = len * sz ∧ ∀ x ∈ cs, V.cellOk (.d x) = true) (h2 : 0 < sz) (h3 : len ≤ cap) (h4 : cap ≤ maxLen) (h5 : cur.size = cap * sz) (h6 : cur.toList.take (len * sz) = us) (ht : t ≠ id) :
    ∃ g', Step g w ob U g' (w.drew.alloc (.cells cur e)) (updf [(t, none), (id, some (.vec com e sz len cs))] ob) (fresh8 U id) ∧ g'.vt id = .slice (some ⟨w.heap.size, 0, none⟩) len cap := by
  have hs0 : Step g w ob U g w (fun k => if k = t then none else ob k) U := .same hI (.inl rfl) (fun _ h => h) fun k o hk => by
    by_cases e : k = t
    · simp [e] at hk
    · simpa [e] using hk
  obtain ⟨g1, hs1, hv1⟩ := step_row (w1 := w.drew) e hs0.inv hid (.inr rfl) hr h1 h2 h3 h4 h5 h6
  have hs := hs0.trans hs1
  cases com with
  | false => exact ⟨g1, hs, hv1⟩
  | true =>
    obtain ⟨g2, hs2, _, hv2, _⟩ := Step.commit (t := id) (com := false) (e := e) (sz := sz) (len := len) (cs := cs) hs.inv (by simp)
    refine ⟨g2, ?_, by rw [hv2]; exact hv1⟩
    have e2 : (fun k => if k = id then some (Ob.vec true e sz len cs) else (fun k => if k = id then some (Ob.vec false e sz len cs) else (fun k => if k = t then none else ob k) k) k) = updf [(t, none), (id, some (.vec true e sz len cs))] ob := by
      funext k
      simp only [updf]
      by_cases e : k = id
      · simp [e]
      · simp [e]
    rw [← e2]
    exact hs.trans hs2

theorem sound_app {t e ty : TypeId} {i : TypeInfo} {z : Value} {ds new : List D} {m : Nat} {x y : V} {vx vy : Value} {v : V} {u : Upd} (hI : Inv g w ob U) (hid : ¬ U id)
    (hx : RepV g w U x vx) (hy : RepV g w U y vy) (he : elemInfo P t = some (e, i, z, ds)) (hsl : y.sliceOf ob = some (m, new)) (hl : new.length = m * i.size)
    (h : (x = .nils ∧ m * i.bytes ≤ roomB ∧ v = .own id m ∧ u = [(id, some (.vec false e i.size m new))]) ∨
      (∃ tt n com cs, x = .own tt n ∧ ob tt = some (.vec com e i.size n cs) ∧ (n + m) * i.bytes ≤ roomB ∧ v = .own id (n + m) ∧ u = [(tt, none), (id, some (.vec com e i.size (n + m) (cs ++ new)))])) 
    (h63 : ∀ k, k * i.bytes ≤ roomB → k ≤ maxLen) :
    Good (((do pure (.value (← Builtin.append_ #[t, t] ty #[vx, vy]))) : Sem Next).run P w) v g w ob U (updf u ob) (fresh8 U id) := by
  obtain ⟨h1, h2, h3, h4, h5, h6, h7⟩ := elemInfo_spec he
  obtain ⟨sa, scap, us, rfl, ⟨s2, hcell⟩, s3, s4⟩ := sliceOf_sound hsl hy hI
  have hul := repL_length s3
  have hzc : z.cells.size = i.size := h7
  have hone := mem_oneCellD s3 hcell
  rcases h with ⟨rfl, hb, rfl, rfl⟩ | ⟨tt, n, com, cs, rfl, ho, hb, rfl, rfl⟩
  · obtain ⟨a, rfl⟩ := hx
    by_cases hm : m = 0
    · subst hm
      obtain rfl : new = [] := List.eq_nil_of_length_eq_zero (by simpa using hl)
      refine ⟨_, w, ⟨g.fr, g.ph, fun k => if k = id then .slice a 0 0 else g.vt k⟩, .inl (run_v (run_append_zero h1 h2 a 0 0 sa scap (Nat.le_refl _))), ⟨fresh8_id, (if_pos rfl).symm, a, 0, rfl⟩, ?_⟩
      have hle : Le g w U ⟨g.fr, g.ph, fun k => if k = id then .slice a 0 0 else g.vt k⟩ w (fresh8 U id) := ⟨.refl _ _, fun _ _ => rfl, fun k hk => if_neg fun e : k = id => hid (e ▸ hk), fresh8_mono⟩
      refine Step.one id (.vec false e i.size 0 []) (fun _ => False) hI hle fresh8_id (Nat.le_refl _) rfl rfl rfl (fun b _ _ => ⟨rfl, rfl⟩) ⟨⟨by simp, by simp⟩, h6, .inl ⟨a, if_pos rfl, rfl⟩⟩ ?_ _ ?_
      · rintro ⟨l, c, q1, q2⟩
        simp at q1; omega
      · intro k o' hk
        by_cases e' : k = id
        · subst e'; simp [updf] at hk; exact .inl ⟨rfl, hk.symm⟩
        · simp [updf, e'] at hk; exact .inr ⟨e', fun h => h, hk⟩
    · rcases s4 with s4 | ⟨b, off, rfl, s4⟩
      · subst s4
        have h0 : m * i.size = 0 := by simpa using hl.symm
        rcases Nat.mul_eq_zero.1 h0 with h | h <;> omega
      · have hr := run_append_nils (w := w) (ty := ty) h1 h2 h3 a ⟨b, off, none⟩ m scap us (by rw [hul, hl]) (fun j v hj => by rw [addr_add]; exact s4 j v hj) (by omega) (by simpa [roomB] using hb) (h63 m hb)
        obtain ⟨g', hs, hv⟩ := step_row (sz := i.size) (w1 := w.drew) (len := m) (cap := grownCap w m 0 e) (cur := us.toArray ++ Builtin.zeroCells z.cells (grownCap w m 0 e - m)) e hI hid (.inr rfl) s3 ⟨hl, hcell⟩ h6 (grownCap_ge w m 0 e) (grownCap_le_maxLen w m 0 e (h63 m hb))
          (by have := grownCap_ge w m 0 e; simp only [Array.size_append, List.size_toArray, size_zeroCells, hul, hl, hzc, ← Nat.add_mul]; congr 1; omega)
          (by rw [← hl, ← hul]; simp)
        exact ⟨_, _, g', .inl (run_v hr), ⟨fresh8_id, hv.symm, _, _, rfl⟩, hs⟩
  · obtain ⟨hUt, hvx, _⟩ := hx
    have htid : tt ≠ id := fun e => hid (e ▸ hUt)
    obtain ⟨_, q1, q2, q3⟩ := hI.rep tt _ ho
    have hokA : ∀ x ∈ cs ++ new, V.cellOk (.d x) = true := fun x hx => by
      rcases List.mem_append.1 hx with hx | hx
      · exact q1.2 x hx
      · exact hcell x hx
    have hlen : (cs ++ new).length = (n + m) * i.size := by rw [List.length_append, q1.1, hl, Nat.add_mul]
    by_cases hm : m = 0
    · -- nothing is appended: the same value under a new name
      subst hm
      obtain rfl : new = [] := List.eq_nil_of_length_eq_zero (by simpa using hl)
      have hcap : ∃ a cap, vx = .slice a n cap ∧ n ≤ cap := by
        rcases q3 with ⟨a, q3, q4⟩ | ⟨cap, cur, us', a1, a2, a3, a4, _⟩
        · subst q4; exact ⟨a, 0, hvx.trans q3, Nat.le_refl _⟩
        · exact ⟨_, cap, hvx.trans a1, a4⟩
      obtain ⟨a, cap, hvs, hnc⟩ := hcap
      have hle : Le g w U ⟨g.fr, fun k => if k = id then g.ph tt else g.ph k, fun k => if k = id then vx else g.vt k⟩ w (fresh8 U id) :=
        ⟨.refl _ _, fun k hk => if_neg fun e : k = id => hid (e ▸ hk), fun k hk => if_neg fun e : k = id => hid (e ▸ hk), fresh8_mono⟩
      refine ⟨vx, w, ⟨g.fr, fun k => if k = id then g.ph tt else g.ph k, fun k => if k = id then vx else g.vt k⟩, .inl (run_v ?_), ⟨fresh8_id, (if_pos rfl).symm, a, cap, by simpa using hvs⟩, ?_⟩
      · rw [hvs]; exact run_append_zero h1 h2 a n cap sa scap hnc
      · refine Step.one id (.vec com e i.size (n + 0) (cs ++ [])) (fun k => k = tt) hI hle fresh8_id (Nat.le_refl _) rfl rfl rfl (fun b _ _ => ⟨rfl, rfl⟩) ?_ ?_ _ ?_
        · refine ⟨⟨by simpa using q1.1, by simpa using q1.2⟩, q2, ?_⟩
          rcases q3 with ⟨a', q3, q4⟩ | ⟨cap', cur, us', a1, a2, a3, a4, a5, a6, a7, a8, a9, a10, a11⟩
          · exact .inl ⟨a', by simpa using hvx.trans q3, q4⟩
          · refine .inr ⟨cap', cur, us', by simpa using hvx.trans a1, a2, by simpa using a3, a4, a5, a6, a7, by simpa using a8, by simpa using a9, by simpa using a10, by simpa using a11⟩
        · rintro ⟨l, c, r1, r2⟩
          refine .inr ⟨tt, _, ho, ⟨l, c, ?_, r2⟩, (if_pos rfl).symm, .inl rfl⟩
          simp only [if_pos] at r1
          rw [← hvx]; exact r1
        · intro k o' hk
          by_cases e' : k = id
          · subst e'; simp [updf] at hk; exact .inl ⟨rfl, by simp [hk]⟩
          · by_cases e2 : k = tt
            · subst e2; simp [updf, e'] at hk
            · simp [updf, e', e2] at hk; exact .inr ⟨e', e2, hk⟩
    · rcases s4 with s4 | ⟨b, off, rfl, s4⟩
      · subst s4
        have h0 : m * i.size = 0 := by simpa using hl.symm
        rcases Nat.mul_eq_zero.1 h0 with h | h <;> omega
      · have hnews : ∀ j v, us[j]? = some v → w.cell? ((⟨b, off, none⟩ : Addr).add j) = some v := fun j v hj => by rw [addr_add]; exact s4 j v hj
        have h63' : ((n + m : Nat) : Int) ≤ 9223372036854775807 := by have := h63 _ hb; simp only [maxLen] at this; omega
        rcases q3 with ⟨a, q3, q4⟩ | ⟨cap, cur, us', a1, a2, a3, a4, a5, a6, a7, a8, a9, a10, a11⟩
        · subst q4
          obtain rfl : cs = [] := List.eq_nil_of_length_eq_zero (by simpa using q1.1)
          have hr := run_append_nils (w := w) (ty := ty) h1 h2 h3 a ⟨b, off, none⟩ m scap us (by rw [hul, hl]) hnews (by omega) (by simpa [roomB] using hb) (h63 m (by simpa using hb))
          obtain ⟨g', hs, hv⟩ := step_grow (com := com) (t := tt) (sz := i.size) (len := 0 + m) (cs := [] ++ new) (cap := grownCap w m 0 e) (cur := us.toArray ++ Builtin.zeroCells z.cells (grownCap w m 0 e - m)) e hI hid (us := us) (by simpa using s3) ⟨by simpa using hl, by simpa using hcell⟩ h6
            (by simpa using grownCap_ge w m 0 e) (grownCap_le_maxLen w m 0 e (h63 m (by simpa using hb)))
            (by have := grownCap_ge w m 0 e; simp only [Array.size_append, List.size_toArray, size_zeroCells, hul, hl, hzc, ← Nat.add_mul]; congr 1; omega)
            (by rw [Nat.zero_add, ← hl, ← hul]; simp) htid
          refine ⟨_, _, g', .inl (run_v (by rw [hvx, q3]; exact hr)), ⟨fresh8_id, ?_, _, _, by rw [Nat.zero_add]⟩, hs⟩
          rw [hv, Nat.zero_add]
        · have hus' : us'.length = n * i.size := by rw [repL_length a8, q1.1]
          have holds : ∀ j v, us'[j]? = some v → w.cell? ((⟨g.ph tt, 0, none⟩ : Addr).add j) = some v := fun j v hj => by
            rw [addr_add, Nat.zero_add]
            refine ext_cell a3 ?_
            rw [← a7, List.getElem?_take] at hj
            split at hj
            · exact hj
            · cases hj
          by_cases hroom : n + m ≤ cap
          · have hfit : n * i.size + us.length ≤ cur.size := by rw [hul, hl, a6, ← Nat.add_mul]; exact Nat.mul_le_mul_right _ hroom
            have hr := run_append_room (P := P) w t ty e i h1 h2 (g.ph tt) n cap cur a3 ⟨b, off, none⟩ m scap us (by rw [hul, hl]) hnews hone hroom hfit
            -- the place, settled as far as it was, or to the new end
            let cur' : Array Value := (cur.toList.take (n * i.size) ++ us ++ cur.toList.drop (n * i.size + us.length)).toArray
            let g' : G := ⟨fun k => if k = g.ph tt then (if com then (cs ++ new).length else 0) else g.fr k, fun k => if k = id then g.ph tt else g.ph k, fun k => if k = id then .slice (some ⟨g.ph tt, 0, none⟩) (n + m) cap else g.vt k⟩
            have hsz : cur'.size = cur.size := by
              simp only [cur', List.size_toArray, List.length_append, List.length_take, List.length_drop, Array.length_toList]
              omega
            have hext : Ext g.fr w g'.fr (w.setRow (g.ph tt) cur') := fun c o x k1 k2 => by
              by_cases hc : c = g.ph tt
              · subst hc
                have hco : com = true := by
                  cases com with
                  | true => rfl
                  | false => have := a10 rfl; omega
                subst hco
                have hlt : o < n * i.size := by rw [← q1.1]; exact Nat.lt_of_lt_of_le k1 a11
                refine ⟨?_, ?_⟩
                · show o < if g.ph tt = g.ph tt then (cs ++ new).length else _
                  rw [if_pos rfl, hlen, Nat.add_mul]
                  exact Nat.lt_of_lt_of_le hlt (Nat.le_add_right _ _)
                · rw [cell_setRow_same w (g.ph tt) o cur cur' e (0, 0) a3]
                  rw [cell_of_row w (g.ph tt) o cur e (0, 0) a3] at k2
                  have : cur'[o]? = cur[o]? := by
                    simp only [cur', List.getElem?_toArray, List.append_assoc]
                    rw [List.getElem?_append_left (by simp; omega), List.getElem?_take, if_pos hlt]
                    simp
                  rw [this]; exact k2
              · refine ⟨?_, ?_⟩
                · show o < if c = g.ph tt then _ else g.fr c
                  rw [if_neg hc]; exact k1
                · rw [setRow_cell_ne _ _ hc]; exact k2
            have hle : Le g w U g' (w.setRow (g.ph tt) cur') (fresh8 U id) := ⟨hext, fun k hk => if_neg fun e : k = id => hid (e ▸ hk), fun k hk => if_neg fun e : k = id => hid (e ▸ hk), fresh8_mono⟩
            refine ⟨.slice (some ⟨g.ph tt, 0, none⟩) (n + m) cap, w.setRow (g.ph tt) cur', g', .inl (run_v (by rw [hvx, a1]; exact hr)), ⟨fresh8_id, (if_pos rfl).symm, _, _, rfl⟩, ?_⟩
            have hfr : g'.fr (g.ph tt) = if com then (cs ++ new).length else 0 := if_pos rfl
            have hphid : g'.ph id = g.ph tt := if_pos rfl
            refine Step.one id (.vec com e i.size (n + m) (cs ++ new)) (fun k => k = tt) hI hle fresh8_id (by simp) rfl rfl rfl ?_ ?_ ?_ _ ?_
            · intro c hc hno
              have hne : c ≠ g.ph tt := fun e => hno tt _ ho ⟨n, cap, a1, a2⟩ (.inl rfl) e.symm
              exact ⟨setRow_other w (g.ph tt) c _ hne, if_neg hne⟩
            · refine ⟨⟨hlen, hokA⟩, h6, .inr ⟨cap, cur', us' ++ us, ?_, a2, by rw [hphid]; exact setRow_heap w (g.ph tt) cur _ e (0, 0) a3, hroom, a5, by rw [hsz]; exact a6, ?_, ?_, ?_, ?_, ?_⟩⟩
              · rw [hphid]; exact if_pos rfl
              · simp only [cur', List.append_assoc]
                rw [a7, Nat.add_mul, ← hl, ← hul, ← hus']
                rw [← List.append_assoc, ← List.length_append]
                exact List.take_left
              · exact repL_append (RepL.mono hext _ _ a8) (RepL.mono hext _ _ s3)
              · intro hc; rw [hphid, hfr, hc]; simp
              · intro hc; rw [hphid, hfr, hc]; simp
              · rw [hphid, hfr]; cases com <;> simp
            · intro _
              exact .inr ⟨tt, _, ho, ⟨n, cap, a1, a2⟩, hphid.symm, .inl rfl⟩
            · intro k o' hk
              by_cases e' : k = id
              · subst e'; simp [updf] at hk; exact .inl ⟨rfl, hk.symm⟩
              · by_cases e2 : k = tt
                · subst e2; simp [updf, e'] at hk
                · simp [updf, e', e2] at hk; exact .inr ⟨e', e2, hk⟩
          · have hr := run_append_grow (P := P) w t ty e i z h1 h2 h3 ⟨g.ph tt, 0, none⟩ n cap us' hus' holds ⟨b, off, none⟩ m scap us (by rw [hul, hl]) hnews (by omega) h63' (growslice_fits (by omega) (by simpa [roomB] using hb))
            have hge := grownCap_ge w (n + m) cap e
            obtain ⟨g', hs, hv⟩ := step_grow (com := com) (t := tt) (sz := i.size) (len := n + m) (cs := cs ++ new) (us := us' ++ us) (cap := grownCap w (n + m) cap e) (cur := us'.toArray ++ us.toArray ++ Builtin.zeroCells z.cells (grownCap w (n + m) cap e - (n + m))) e hI hid (repL_append a8 s3) ⟨hlen, hokA⟩ h6
              hge (grownCap_le_maxLen w (n + m) cap e (h63 _ hb))
              (by simp only [Array.size_append, List.size_toArray, size_zeroCells, hul, hl, hus', hzc, ← Nat.add_mul]; congr 1; omega)
              (by
                rw [← hlen, List.length_append, ← hul, show cs.length = us'.length by rw [q1.1, hus'], ← List.length_append]
                simp only [Array.toList_append, List.toList_toArray]
                exact List.take_left) htid
            exact ⟨_, _, g', .inl (run_v (by rw [hvx, a1]; exact hr)), ⟨fresh8_id, hv.symm, _, _, rfl⟩, hs⟩
end
end Go.Vk
