/- Each instruction's ideal outcome is what the machine does: memory. -/
import Derived.Test.YtbdohnigbnhjnaaVkSnd
set_option linter.unusedSimpArgs false
set_option linter.unusedVariables false
set_option linter.unusedSectionVars false
namespace Go.Vk
section
variable {P : Program} {g : G} {w : World} {ob : Gt} {U : Nat → Prop} {id : Nat}

theorem addr_add (b off i : Nat) : (⟨b, off, none⟩ : Addr).add i = ⟨b, off + i, none⟩ := by
  unfold Addr.add; split <;> simp_all

theorem run_isAgg' {t : TypeId} {n : Option Nat} (h : tyAgg P t = some n) : (isAgg t).run P w = .ok n.isSome w := by
  unfold tyAgg at h
  cases hu : P.underlying t with
  | none => simp [hu] at h
  | some d =>
    cases hi : P.info? t with
    | none => cases d <;> simp [hu, hi] at h
    | some i =>
      cases d <;> simp [hu, hi] at h <;> subst h <;> simp [isAgg, run_underlying hu]
theorem run_sizeOf' {t : TypeId} {n : Nat} (h : tySize P t = some n) : (sizeOf t).run P w = .ok n w := by
  unfold tySize at h
  cases hi : P.info? t with
  | none => simp [hi] at h
  | some i => simp [hi] at h; subst h; simp [sizeOf, typeInfo, hi]
theorem tySize_of_agg {t : TypeId} {k : Nat} (h : tyAgg P t = some (some k)) : tySize P t = some k := by
  unfold tyAgg at h
  unfold tySize
  cases hu : P.underlying t with
  | none => simp [hu] at h
  | some d =>
    cases hi : P.info? t with
    | none => cases d <;> simp [hu, hi] at h
    | some i => cases d <;> simp [hu, hi] at h <;> simp [h]

theorem run_loadVar1 {t : TypeId} {a : Addr} {u : Value} (h : tyAgg P t = some none) (hc : w.cell? a = some u) : (loadVar t a).run P w = .ok u w := by
  simp [loadVar, run_isAgg' h, hc]
theorem run_loadVarN {t : TypeId} {b off k : Nat} {us : List Value} (h : tyAgg P t = some (some k)) (hl : us.length = k) (hc : ∀ i u, us[i]? = some u → w.cell? ⟨b, off + i, none⟩ = some u) :
    (loadVar t ⟨b, off, none⟩).run P w = .ok (.agg us.toArray) w := by
  have := run_loadCells_list (P := P) w ⟨b, off, none⟩ us (fun j v hj => by rw [addr_add]; exact hc j v hj)
  rw [hl] at this
  simp [loadVar, run_isAgg' h, run_sizeOf' (tySize_of_agg h), this]

/-! ### new blocks -/
/-- The objects' places, with a new block for object id. -/
def G.new (g : G) (w : World) (id : Nat) (v : Value) : G :=
  ⟨fun b => if b = w.heap.size then 0 else g.fr b, fun t => if t = id then w.heap.size else g.ph t, fun t => if t = id then v else g.vt t⟩
theorem le_new {w' : World} (v : Value) (hid : ¬ U id) (hh : ∀ b o u, w.cell? ⟨b, o, none⟩ = some u → w'.cell? ⟨b, o, none⟩ = some u) : Le g w U (g.new w id v) w' (fresh8 U id) where
  ext := fun b o u h1 h2 => by
    have hlt : b < w.heap.size := World.block_lt_of_cell? w ⟨b, o, none⟩ h2
    refine ⟨?_, hh b o u h2⟩
    show o < if b = w.heap.size then 0 else g.fr b
    rw [if_neg (by omega)]
    exact h1
  ph := fun t ht => by
    show (if t = id then _ else _) = _
    exact if_neg fun e : t = id => hid (e ▸ ht)
  vt := fun t ht => by
    show (if t = id then _ else _) = _
    exact if_neg fun e : t = id => hid (e ▸ ht)
  used := fresh8_mono
theorem cell_alloc (o : Obj) {b off : Nat} {u : Value} (h : w.cell? ⟨b, off, none⟩ = some u) : (w.alloc o).cell? ⟨b, off, none⟩ = some u := by
  rw [World.cell?_alloc_lt w o ⟨b, off, none⟩ (World.block_lt_of_cell? w ⟨b, off, none⟩ h)]
  exact h
theorem step_box {cs : List V} {us : Array Value} (e : TypeId) (hI : Inv g w ob U) (hid : ¬ U id) (hr : RepVs g w U cs us.toList) :
    ∃ g', Step g w ob U g' (w.alloc (.cells us e)) (fun k => if k = id then some (.box cs) else ob k) (fresh8 U id) ∧ g'.ph id = w.heap.size := by
  have hle : Le g w U (g.new w id undef) (w.alloc (.cells us e)) (fresh8 U id) := le_new undef hid fun _ _ _ h => cell_alloc _ h
  have hph : (g.new w id undef).ph id = w.heap.size := if_pos rfl
  refine ⟨g.new w id undef, ?_, hph⟩
  refine Step.one id (.box cs) (fun _ => False) hI hle fresh8_id (by simp) rfl rfl rfl ?_ ?_ ?_ _ ?_
  · intro b hb _
    refine ⟨heap_alloc_old w _ b hb, ?_⟩
    show (if b = w.heap.size then 0 else g.fr b) = _
    rw [if_neg (by omega)]
  · refine ⟨us, e, by rw [hph]; exact heap_alloc_new w _, RepVs.mono hle _ _ hr, ?_⟩
    rw [hph]
    exact if_pos rfl
  · intro _; exact .inl (by rw [hph]; exact Nat.le_refl _)
  · intro k o' hk
    by_cases e' : k = id
    · subst e'; simp at hk; exact .inl ⟨rfl, hk.symm⟩
    · simp [e'] at hk; exact .inr ⟨e', fun h => h, hk⟩
/-- A new row of one's own (drawn for or not). -/
theorem step_row {len cap sz : Nat} {cs : List D} {us : List Value} {cur : Array Value} {w1 : World} (e : TypeId) (hI : Inv g w ob U) (hid : ¬ U id) (hw : w1 = w ∨ w1 = w.drew) (hr : RepL g.fr w cs us)
    (h1 : cs.length = len * sz ∧ ∀ x ∈ cs, V.cellOk (.d x) = true) (h2 : 0 < sz) (h3 : len ≤ cap) (h4 : cap ≤ maxLen) (h5 : cur.size = cap * sz) (h6 : cur.toList.take (len * sz) = us) :
    ∃ g', Step g w ob U g' (w1.alloc (.cells cur e)) (fun k => if k = id then some (.vec false e sz len cs) else ob k) (fresh8 U id) ∧ g'.vt id = .slice (some ⟨w.heap.size, 0, none⟩) len cap := by
  have hh : w1.heap = w.heap := by rcases hw with rfl | rfl <;> rfl
  have hc : ∀ b o u, w.cell? ⟨b, o, none⟩ = some u → (w1.alloc (.cells cur e)).cell? ⟨b, o, none⟩ = some u := fun b o u h => cell_alloc _ (by rcases hw with rfl | rfl <;> exact h)
  have hle : Le g w U (g.new w id (.slice (some ⟨w.heap.size, 0, none⟩) len cap)) (w1.alloc (.cells cur e)) (fresh8 U id) := le_new _ hid hc
  have hph : (g.new w id (.slice (some ⟨w.heap.size, 0, none⟩) len cap)).ph id = w.heap.size := if_pos rfl
  have hvt : (g.new w id (.slice (some ⟨w.heap.size, 0, none⟩) len cap)).vt id = .slice (some ⟨w.heap.size, 0, none⟩) len cap := if_pos rfl
  have hfr : (g.new w id (.slice (some ⟨w.heap.size, 0, none⟩) len cap)).fr w.heap.size = 0 := if_pos rfl
  have hnew : (w1.alloc (.cells cur e)).heap[w.heap.size]? = some (.cells cur e (0, 0)) := by rw [← hh]; exact heap_alloc_new w1 _
  refine ⟨_, ?_, hvt⟩
  refine Step.one id (.vec false e sz len cs) (fun _ => False) hI hle fresh8_id (by simp [hh]) ?_ ?_ ?_ ?_ ?_ ?_ _ ?_
  · rcases hw with rfl | rfl <;> rfl
  · rcases hw with rfl | rfl <;> rfl
  · rcases hw with rfl | rfl <;> rfl
  · intro b hb _
    refine ⟨(heap_alloc_old w1 _ b (by rw [hh]; exact hb)).trans (by rw [hh]), ?_⟩
    show (if b = w.heap.size then 0 else g.fr b) = _
    rw [if_neg (by omega)]
  · refine ⟨h1, h2, ?_⟩
    by_cases hcap : cap = 0
    · subst hcap
      obtain rfl : len = 0 := by omega
      exact .inl ⟨_, hvt, rfl⟩
    · exact .inr ⟨cap, cur, us, by rw [hvt, hph], by omega, by rw [hph]; exact hnew, h3, h4, h5, h6, RepL.mono hle.ext _ _ hr, (fun h => by cases h), (fun _ => by rw [hph]; exact hfr), by rw [hph, hfr]; exact Nat.zero_le _⟩
  · intro _; exact .inl (by rw [hph]; exact Nat.le_refl _)
  · intro k o' hk
    by_cases e' : k = id
    · subst e'; simp at hk; exact .inl ⟨rfl, hk.symm⟩
    · simp [e'] at hk; exact .inr ⟨e', fun h => h, hk⟩

theorem sound_box {e : TypeId} {x : V} {v : Value} (hI : Inv g w ob U) (hid : ¬ U id) (hv : RepV g w U x v) (hok : x.cells.all V.cellOk = true) :
    Good (((do pure (.value (← Instr.box e v))) : Sem Next).run P w) (.ptr id 0) g w ob U (updf [(id, some (.box x.cells))] ob) (fresh8 U id) := by
  have hx : x ≠ .dead := fun h => by subst h; simp [V.cells, V.cellOk] at hok
  have hx2 : ∀ d, x ≠ .d (.agg d) := fun d h => by subst h; simp [V.cells, V.cellOk] at hok
  obtain ⟨g', hs, hp⟩ := step_box (us := v.cells) e hI hid (repV_cells hv hx hx2)
  refine ⟨_, _, g', .inl (run_v (u := .pointer (some ⟨w.heap.size, 0, none⟩)) (w' := w.alloc (.cells v.cells e)) ?_), ⟨fresh8_id, by rw [hp]⟩, hs⟩
  simp [Instr.box, newVar, newRow]

/-! ### loads -/
theorem ext_cell {b off : Nat} {u : Value} {us : Array Value} {e : TypeId} {fz : Nat × Nat} (h : w.heap[b]? = some (.cells us e fz)) (hu : us.toList[off]? = some u) : w.cell? ⟨b, off, none⟩ = some u := by
  rw [cell_of_row w b off us e fz h]
  simpa using hu
theorem vec_cells {t : Nat} {com : Bool} {e : TypeId} {sz len : Nat} {cs : List D} (h : VecRep g w t com e sz len cs) : ∃ us : List Value, RepL g.fr w cs us ∧ us.length = cs.length ∧
    (0 < cs.length → (∃ cap, g.vt t = .slice (some ⟨g.ph t, 0, none⟩) len cap)) ∧ ∀ i u, us[i]? = some u → w.cell? ⟨g.ph t, i, none⟩ = some u := by
  obtain ⟨h1, h2, h3⟩ := h
  rcases h3 with ⟨a, h3, h4⟩ | ⟨cap, cur, us, a1, a2, a3, a4, a5, a6, a7, a8, _⟩
  · subst h4
    have : cs = [] := List.eq_nil_of_length_eq_zero (by simpa using h1.1)
    subst this
    exact ⟨[], rfl, rfl, by simp, by simp⟩
  · refine ⟨us, a8, repL_length a8, fun _ => ⟨cap, a1⟩, fun i u hu => ?_⟩
    refine ext_cell a3 ?_
    rw [← a7, List.getElem?_take] at hu
    split at hu
    · exact hu
    · cases hu

/-- The cells behind a pointer to an object. -/
def Ob.cells : Ob → List V
  | .box cs => cs
  | .cbox cs => cs.map .d
  | .vec _ _ _ _ cs => cs.map .d
theorem ob_cells {t : Nat} {o : Ob} (hI : Inv g w ob U) (ho : ob t = some o) : ∃ us : List Value, RepVs g w U o.cells us ∧ ∀ i u, us[i]? = some u → w.cell? ⟨g.ph t, i, none⟩ = some u := by
  have h := (hI.rep t o ho).2
  cases o with
  | box cs =>
    obtain ⟨us, e, h1, h2, _⟩ := h
    exact ⟨us.toList, h2, fun i u hu => ext_cell h1 hu⟩
  | cbox cs =>
    obtain ⟨_, us, e, h1, h2, _⟩ := h
    exact ⟨us.toList, repVs_of_repL h2, fun i u hu => ext_cell h1 hu⟩
  | vec com e sz len cs =>
    obtain ⟨us, h1, _, _, h2⟩ := vec_cells h
    exact ⟨us, repVs_of_repL h1, h2⟩

theorem sound_ld_cells {t : TypeId} {n : Option Nat} {b off : Nat} {cs : List V} {us : List Value} {v : V} (hI : Inv g w ob U) (ht : tyAgg P t = some n) (hr : RepVs g w U cs us)
    (hc : ∀ i u, us[i]? = some u → w.cell? ⟨b, off + i, none⟩ = some u)
    (h : (n = none ∧ cs[0]? = some v) ∨ (∃ k, n = some k ∧ k ≤ cs.length ∧ v = .agg (cs.take k))) :
    Good (((do pure (.value (← Instr.loadAt t (.pointer (some ⟨b, off, none⟩))))) : Sem Next).run P w) v g w ob U ob (fresh8 U id) := by
  have hl := repVs_length hr
  rcases h with ⟨rfl, h⟩ | ⟨k, rfl, hk, rfl⟩
  · obtain ⟨u, hu, hv⟩ := repVs_get 0 hr h
    refine good_val hI (run_v (u := u) ?_) hv
    have := hc 0 u hu
    simp only [Nat.add_zero] at this
    simp [Instr.loadAt, Instr.sureAddr, run_loadVar1 ht this]
  · refine good_val hI (run_v (u := .agg (us.take k).toArray) ?_) ⟨us.take k, rfl, repVs_take k hr⟩
    have := run_loadVarN (w := w) (b := b) (off := off) (us := us.take k) ht (by simp; omega) (fun i u hu => hc i u (by
      rw [List.getElem?_take] at hu
      split at hu
      · exact hu
      · cases hu))
    simp [Instr.loadAt, Instr.sureAddr, this]

theorem sound_ld_ptr {t : TypeId} {n : Option Nat} {b off : Nat} {o : Ob} {u : Value} {v : V} (hI : Inv g w ob U) (ht : tyAgg P t = some n) (ho : ob b = some o) (hu : RepV g w U (.ptr b off) u)
    (h : (n = none ∧ o.cells[off]? = some v) ∨ (∃ k, n = some k ∧ off + k ≤ o.cells.length ∧ v = .agg ((o.cells.drop off).take k))) :
    Good (((do pure (.value (← Instr.loadAt t u))) : Sem Next).run P w) v g w ob U ob (fresh8 U id) := by
  obtain ⟨_, rfl⟩ := hu
  obtain ⟨us, h1, h2⟩ := ob_cells hI ho
  refine sound_ld_cells (cs := o.cells.drop off) (us := us.drop off) hI ht (repVs_drop off h1) (fun i u hu => h2 _ u (by simpa using hu)) ?_
  rcases h with ⟨h3, h4⟩ | ⟨k, h3, h4, h5⟩
  · exact .inl ⟨h3, by simpa using h4⟩
  · exact .inr ⟨k, h3, by simp; omega, h5⟩
theorem sound_ld_dptr {t : TypeId} {n : Option Nat} {cs : List D} {u : Value} {v : V} (hI : Inv g w ob U) (ht : tyAgg P t = some n) (hu : RepV g w U (.dptr cs) u)
    (h : (n = none ∧ (cs.map V.d)[0]? = some v) ∨ (∃ k, n = some k ∧ k ≤ (cs.map V.d).length ∧ v = .agg ((cs.map V.d).take k))) :
    Good (((do pure (.value (← Instr.loadAt t u))) : Sem Next).run P w) v g w ob U ob (fresh8 U id) := by
  obtain ⟨b, off, rfl, h1⟩ := hu
  obtain ⟨us, _, h2, h3⟩ := repAt_vals h1
  exact sound_ld_cells (cs := cs.map .d) (us := us) hI ht (repVs_of_repL h2) h3 h

/-! ### stores -/
theorem setRow_cell_ne (b : Nat) (cs : Array Value) {c off : Nat} (h : c ≠ b) : (w.setRow b cs).cell? ⟨c, off, none⟩ = w.cell? ⟨c, off, none⟩ := cell_setRow_other w b cs ⟨c, off, none⟩ h
theorem ext_setRow {b : Nat} {cs : Array Value} (hf : g.fr b = 0) : Ext g.fr w g.fr (w.setRow b cs) := fun c o u h1 h2 => by
  refine ⟨h1, ?_⟩
  rw [setRow_cell_ne b cs (fun e => by rw [e, hf] at h1; omega)]
  exact h2
theorem le_setRow {b : Nat} {cs : Array Value} (hf : g.fr b = 0) : Le g w U g (w.setRow b cs) U := ⟨ext_setRow hf, fun _ _ => rfl, fun _ _ => rfl, fun _ h => h⟩
theorem run_storeVar' {t : TypeId} {n b off : Nat} {e : TypeId} {us : Array Value} {v : Value} (ht : tySize P t = some n) (hb : w.heap[b]? = some (.cells us e (0, 0))) (hn : v.cells.size = n) (hfit : off + n ≤ us.size)
    (h1 : ∀ u ∈ v.cells.toList, u.oneCell' = true) : (storeVar t ⟨b, off, none⟩ v).run P w = .ok () (w.setRow b (splice us.toList off v.cells.toList).toArray) := by
  have := run_storeCells_at P b off e v.cells.toList 0 us w hb (by simp; omega) h1
  simp only [Nat.add_zero, List.append_assoc] at this
  simp [storeVar, run_sizeOf' ht, hn, this, splice]

theorem mem_oneCell : ∀ {cs : List V} {us : List Value}, RepVs g w U cs us → cs.all V.cellOk = true → ∀ u ∈ us, u.oneCell' = true
  | [], _, h, _, u, hu => by simp [RepVs] at h; subst h; cases hu
  | c :: r, _, h, ha, u, hu => by
    obtain ⟨v, s, rfl, h2, h3⟩ := h
    simp only [List.all_cons, Bool.and_eq_true] at ha
    rcases List.mem_cons.1 hu with rfl | hu
    · exact repV_one h2 ha.1
    · exact mem_oneCell h3 ha.2 u hu
theorem mem_oneCellD : ∀ {cs : List D} {us : List Value} {fr : Nat → Nat} {w : World}, RepL fr w cs us → (∀ x ∈ cs, V.cellOk (.d x) = true) → ∀ u ∈ us, u.oneCell' = true
  | [], _, _, _, h, _, u, hu => by simp [RepL] at h; subst h; cases hu
  | c :: r, _, _, _, h, ha, u, hu => by
    obtain ⟨v, s, rfl, h2, h3⟩ := h
    rcases List.mem_cons.1 hu with rfl | hu
    · exact repD_one h2 (ha c (by simp))
    · exact mem_oneCellD h3 (fun x hx => ha x (by simp [hx])) u hu

theorem sound_st_box {t : TypeId} {n b off : Nat} {cs : List V} {y : V} {pv v : Value} (hI : Inv g w ob U) (ht : tySize P t = some n) (ho : ob b = some (.box cs)) (hp : RepV g w U (.ptr b off) pv) (hv : RepV g w U y v)
    (hn : y.cells.length = n) (hfit : off + n ≤ cs.length) (hok : y.cells.all V.cellOk = true) :
    Good (((do Instr.storeAt t pv v; pure .skip) : Sem Next).run P w) .dead g w ob U (updf [(b, some (.box (splice cs off y.cells)))] ob) (fresh8 U id) := by
  obtain ⟨hU, rfl⟩ := hp
  by_cases hd : y = .dead
  · subst hd; simp [V.cells, V.cellOk] at hok
  have hx2 : ∀ d, y ≠ .d (.agg d) := fun d h => by subst h; simp [V.cells, V.cellOk] at hok
  have hvs := repV_cells hv hd hx2
  obtain ⟨_, us, e, h1, h2, h3⟩ := hI.rep b _ ho
  have hlu := repVs_length h2
  have hlv := repVs_length hvs
  have hsv : v.cells.size = n := by simp at hlv; omega
  have hsp : RepVs g w U (splice cs off y.cells) (splice us.toList off v.cells.toList) := repVs_splice off h2 hvs
  have hle := le_setRow (U := U) (w := w) (cs := (splice us.toList off v.cells.toList).toArray) h3
  refine ⟨undef, w.setRow (g.ph b) (splice us.toList off v.cells.toList).toArray, g, .inr ⟨run_u ?_, rfl⟩, trivial, ?_⟩
  · have := run_storeVar' (w := w) (off := off) (v := v) ht h1 hsv (by simp at hlu; omega) (mem_oneCell hvs hok)
    simp [Instr.storeAt, Instr.sureAddr, this]
  · refine Step.one b (.box (splice cs off y.cells)) (fun _ => False) hI (hle.trans (Le.grow fresh8_mono)) (.inl hU) (by simp) rfl rfl rfl ?_ ?_ ?_ _ ?_
    · intro c hc hno
      exact ⟨setRow_other w (g.ph b) c _ (fun e => hno b _ ho trivial (.inr rfl) e.symm), rfl⟩
    · exact ⟨_, e, setRow_heap w (g.ph b) us _ e (0, 0) h1, RepVs.mono (hle.trans (Le.grow fresh8_mono)) _ _ (by simpa using hsp), h3⟩
    · intro _; exact .inr ⟨b, _, ho, trivial, rfl, .inr rfl⟩
    · intro k o' hk
      by_cases e' : k = b
      · subst e'; simp [updf] at hk; exact .inl ⟨rfl, hk.symm⟩
      · simp [updf, e'] at hk; exact .inr ⟨e', fun h => h, hk⟩

theorem sound_st_vec {t : TypeId} {n b off : Nat} {e : TypeId} {sz len : Nat} {cs new : List D} {y : V} {pv v : Value} (hI : Inv g w ob U) (ht : tySize P t = some n) (ho : ob b = some (.vec false e sz len cs)) (hp : RepV g w U (.ptr b off) pv)
    (hv : RepV g w U y v) (hn : V.toDs ob y.cells = some (new, [])) (hl : new.length = n) (hfit : off + n ≤ cs.length) (hn0 : 0 < n) (hdead : y ≠ .dead) :
    Good (((do Instr.storeAt t pv v; pure .skip) : Sem Next).run P w) .dead g w ob U (updf [(b, some (.vec false e sz len (splice cs off new)))] ob) (fresh8 U id) := by
  obtain ⟨hU, rfl⟩ := hp
  have hx2 : ∀ d, y ≠ .d (.agg d) := fun d h => by subst h; simp [V.cells, V.toDs, V.toD1] at hn
  have hvs := repV_cells hv hdead hx2
  obtain ⟨hok, g1, hs1, hr1⟩ := toDs_sound hn hvs hI
  have hr0 : RepL g1.fr w new v.cells.toList := hr1
  have hI1 : Inv g1 w ob U := hs1.inv
  obtain ⟨_, a1, a2, a3⟩ := hI1.rep b _ ho
  have hlv := repL_length hr0
  have hsv : v.cells.size = n := by simp at hlv; omega
  rcases a3 with ⟨a, _, a4⟩ | ⟨cap, cur, us, b1, b2, b3, b4, b5, b6, b7, b8, b9, b10, b11⟩
  · subst a4; have a1 := a1.1; simp at a1; rw [a1] at hfit; simp at hfit; omega
  · have hph : g1.ph b = g.ph b := hs1.le.ph b hU
    have hf := b10 rfl
    have hlc : cs.length ≤ cur.size := by rw [a1.1, b6]; exact Nat.mul_le_mul_right _ b4
    have hle := le_setRow (g := g1) (U := U) (w := w) (cs := (splice cur.toList off v.cells.toList).toArray) hf
    refine ⟨undef, w.setRow (g.ph b) (splice cur.toList off v.cells.toList).toArray, g1, .inr ⟨run_u ?_, rfl⟩, trivial, hs1.trans ?_⟩
    · have := run_storeVar' (w := w) (b := g.ph b) (off := off) (v := v) ht (by rw [← hph]; exact b3) hsv (by omega) (mem_oneCellD hr0 hok)
      simp [Instr.storeAt, Instr.sureAddr, this]
    · rw [← hph]
      refine Step.one b (.vec false e sz len (splice cs off new)) (fun _ => False) hI1 (hle.trans (Le.grow fresh8_mono)) (.inl hU) (by simp) rfl rfl rfl ?_ ?_ ?_ _ ?_
      · intro c hc hno
        exact ⟨setRow_other w (g1.ph b) c _ (fun e => hno b _ ho ⟨len, cap, b1, b2⟩ (.inr rfl) e.symm), rfl⟩
      · have hcl : (splice cs off new).length = cs.length := length_splice _ _ _ (by omega)
        refine ⟨⟨by rw [hcl]; exact a1.1, fun x hx => ?_⟩, a2, .inr ⟨cap, _, splice us off v.cells.toList, b1, b2, setRow_heap w (g1.ph b) cur _ e (0, 0) b3, b4, b5, ?_, ?_, ?_, (fun h => by cases h), b10, by rw [hcl]; exact b11⟩⟩
        · unfold splice at hx
          rcases List.mem_append.1 hx with hx | hx
          · exact a1.2 x (List.mem_of_mem_take hx)
          · rcases List.mem_append.1 hx with hx | hx
            · exact hok x hx
            · exact a1.2 x (List.mem_of_mem_drop hx)
        · rw [List.size_toArray, length_splice _ _ _ (by simp; omega)]; simpa using b6
        · have hul : us.length = cs.length := repL_length b8
          rw [← b7]
          apply List.ext_getElem?
          intro k
          have hcl2 : v.cells.toList.length = n := by simp [hsv]
          by_cases hk : k < len * sz
          · rw [List.getElem?_take, if_pos hk, getElem?_splice _ _ _ (by simp; omega), getElem?_splice _ _ _ (by rw [b7]; omega), List.getElem?_take, if_pos hk]
          · rw [List.getElem?_take, if_neg hk, getElem?_splice _ _ _ (by rw [b7]; omega), List.getElem?_take, if_neg hk, if_neg]
            omega
        · exact RepL.mono (hle.trans (Le.grow (U' := fresh8 U id) fresh8_mono)).ext _ _ (repL_splice off b8 hr0)
      · intro _; exact .inr ⟨b, _, ho, ⟨len, cap, b1, b2⟩, rfl, .inr rfl⟩
      · intro k o' hk
        by_cases e' : k = b
        · subst e'; simp [updf] at hk; exact .inl ⟨rfl, hk.symm⟩
        · simp [updf, e'] at hk; exact .inr ⟨e', fun h => h, hk⟩
end
end Go.Vk
