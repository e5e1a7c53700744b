/- A value that is read as data stands for plain data. -/
import Derived.Test.YtbdohnigbnhjnaaVkFun
import Derived.Test.YtbdohnigbnhjnaaRows
import Derived.Deep.Slices
import Derived.WalkKit
import Derived.ProofKit
import Derived.OpenShut
import Derived.ChangeOld
import Derived.Below
import Derived.Deep.CondSized
set_option linter.unusedSimpArgs false
set_option linter.unusedVariables false
set_option linter.unusedSectionVars false
namespace Go.Vk
open Go Go.Proofs Go.ChangeShapes Go.WideShapes Go.ChangeAt Go.RowKit
open Go.Proofs.Ytbdohnigbnhjnaa.Rows (uptoBulk uptoBulkAll)
/-- How far a block of a world reaches: all of it is settled. -/
def frOf (w : World) (b : Nat) : Nat := match w.heap[b]? with
  | some (.cells c _ _) => c.size
  | _ => 0
theorem frOf_lt {w : World} {b off : Nat} {u : Value} (h : w.cell? ⟨b, off, none⟩ = some u) : off < frOf w b := by
  unfold World.cell? at h
  unfold frOf
  split at h
  · rename_i c _ _ hb
    simp only [] at hb
    rw [hb]
    simp at h
    exact (Array.getElem?_eq_some_iff.1 h).1
  · simp at h
section
variable {H : Type} (enc : TypeId × Value → H) (P : Program)
/-- Every reading of a value of type t of bulk at most N stands for data e a; a is good and no larger than its bulk. -/
def Opn (N : Nat) (t : TypeId) {α : Type} (e : α → List D) (good : α → Prop) (μ : α → Nat) : Prop :=
  ∀ (w : World) (sp : Nat → Bool) (held : Bool) (fuel : Nat) (cs : List Value) (x : DataW H × List MemPlace), uptoBulk x.1 ≤ N → DataW.trod enc P w 0 sp held fuel t cs = some x → ∃ a, RepL (frOf w) w (e a) cs ∧ good a ∧ μ a ≤ uptoBulk x.1
variable {enc P} {N : Nat}
theorem op_int {t : TypeId} {k : IntKind} (hu : P.underlying t = some (.int k)) : Opn enc P N t (fun n => [.int k n]) (fun n => (Lit.int k n).wf = true) (fun _ => 1) := by
  intro w sp held fuel cs x _ h
  obtain ⟨m, rfl, rfl, hw⟩ := DataW.trod_int hu h
  exact ⟨m, ⟨_, _, rfl, rfl, rfl⟩, hw, by simp [uptoBulk]⟩
theorem op_byte {t : TypeId} (hu : P.underlying t = some (.int .u8)) : Opn enc P N t (fun b => [byteD b]) (fun _ => True) (fun _ => 1) := by
  intro w sp held fuel cs x _ h
  obtain ⟨m, rfl, rfl, hw⟩ := DataW.trod_int hu h
  refine ⟨UInt8.ofNat m.toNat, ⟨_, _, rfl, ?_, rfl⟩, trivial, by simp [uptoBulk]⟩
  simp [Lit.wf, IntKind.min, IntKind.max, IntKind.signed, IntKind.bits] at hw
  simp only [byteD, RepD]
  congr 1
  simp
  omega
theorem op_bool {t : TypeId} (hu : P.underlying t = some .bool) : Opn enc P N t (fun b => [.bool b]) (fun _ => True) (fun _ => 1) := by
  intro w sp held fuel cs x _ h
  obtain ⟨b, rfl, rfl⟩ := DataW.trod_bool hu h
  exact ⟨b, ⟨_, _, rfl, rfl, rfl⟩, trivial, by simp [uptoBulk]⟩
theorem op_str {t : TypeId} (hu : P.underlying t = some .string) : Opn enc P N t (fun s : List UInt8 => [.str s]) (fun s => s.length ≤ maxLen) (fun _ => 0) := by
  intro w sp held fuel cs x _ h
  obtain ⟨s, rfl, rfl, hs⟩ := DataW.trod_string hu h
  refine ⟨s.data.toList, ⟨_, _, rfl, rfl, rfl⟩, ?_, Nat.zero_le _⟩
  have : s.data.toList.length = s.size := Array.length_toList
  show s.data.toList.length ≤ maxLen
  rw [this]; exact hs
theorem bulk_mem : ∀ (l : List (DataW H)) (y : DataW H), y ∈ l → uptoBulk y ≤ uptoBulkAll l
  | [], y, h => by simp at h
  | a :: l, y, h => by
    simp only [uptoBulkAll]
    rcases List.mem_cons.1 h with rfl | h
    · omega
    · have := bulk_mem l y h; omega
theorem bulk_sum {α : Type} (μ : α → Nat) : ∀ (xs : List α) (l : List (DataW H)), xs.length = l.length → (∀ (i : Nat) (a : α) (y : DataW H), xs[i]? = some a → l[i]? = some y → μ a ≤ uptoBulk y) → (xs.map μ).sum ≤ uptoBulkAll l
  | [], [], _, _ => by simp [uptoBulkAll]
  | [], _ :: _, h, _ => by simp at h
  | _ :: _, [], h, _ => by simp at h
  | a :: xs, y :: l, h, hh => by
    simp only [List.map_cons, List.sum_cons, uptoBulkAll]
    have h1 := hh 0 a y rfl rfl
    have h2 := bulk_sum μ xs l (by simpa using h) (fun i a y ha hy => hh (i + 1) a y (by simpa using ha) (by simpa using hy))
    omega
/-- A choice at each index below a number, as a list. -/
theorem list_lt {α : Type} {p : Nat → α → Prop} : ∀ (n : Nat), (∀ i, i < n → ∃ a, p i a) → ∃ xs : List α, xs.length = n ∧ ∀ (i : Nat) (a : α), xs[i]? = some a → p i a
  | 0, _ => ⟨[], rfl, fun i a h => by simp at h⟩
  | n + 1, h => by
    obtain ⟨xs, hl, hx⟩ := list_lt n (fun i hi => h i (by omega))
    obtain ⟨a, ha⟩ := h n (by omega)
    refine ⟨xs ++ [a], by simp [hl], fun i b hb => ?_⟩
    by_cases hi : i < xs.length
    · rw [List.getElem?_append_left hi] at hb; exact hx i b hb
    · have hlt := (List.getElem?_eq_some_iff.1 hb).1
      simp only [List.length_append, List.length_singleton] at hlt
      obtain rfl : i = xs.length := by omega
      rw [List.getElem?_append_right (Nat.le_refl _)] at hb
      simp at hb
      subst hb
      rw [hl]; exact ha
theorem repAt_append {fr : Nat → Nat} {w : World} : ∀ {a b : List D} {bl off : Nat}, RepAt fr w a bl off → RepAt fr w b bl (off + a.length) → RepAt fr w (a ++ b) bl off
  | [], _, _, _, _, h => by simpa using h
  | d :: r, _, _, off, h, k => ⟨h.1, repAt_append h.2 (by rw [List.length_cons] at k; rwa [show off + 1 + r.length = off + (r.length + 1) by omega])⟩
/-- Cells of a world that are read, as settled data. -/
theorem repAt_cells {w : World} : ∀ {ds : List D} {us : List Value} {b off : Nat}, RepL (frOf w) w ds us → (∀ i u, us[i]? = some u → w.cell? ⟨b, off + i, none⟩ = some u) → RepAt (frOf w) w ds b off
  | [], _, _, _, _, _ => trivial
  | d :: r, _, b, off, h, hc => by
    obtain ⟨u, s, rfl, h2, h3⟩ := h
    have h0 := hc 0 u rfl
    refine ⟨⟨frOf_lt h0, u, h0, h2⟩, repAt_cells h3 fun i v hv => ?_⟩
    have := hc (i + 1) v (by simpa using hv)
    rwa [show off + (i + 1) = off + 1 + i by omega] at this
theorem repAt_rows {w : World} {α : Type} (e : α → List D) (sz b off : Nat) : ∀ (xs : List α) (k : Nat), (∀ a ∈ xs, (e a).length = sz) →
    (∀ (i : Nat) (a : α), xs[i]? = some a → ∃ us : List Value, RepL (frOf w) w (e a) us ∧ ∀ j u, us[j]? = some u → w.cell? ⟨b, off + (k + i) * sz + j, none⟩ = some u) → RepAt (frOf w) w (xs.flatMap e) b (off + k * sz)
  | [], _, _, _ => trivial
  | a :: xs, k, hl, h => by
    rw [List.flatMap_cons]
    obtain ⟨us, h1, h2⟩ := h 0 a rfl
    refine repAt_append (repAt_cells h1 fun i u hu => by simpa using h2 i u hu) ?_
    rw [hl a (by simp)]
    have := repAt_rows e sz b off xs (k + 1) (fun x hx => hl x (by simp [hx])) (fun i x hx => by
      obtain ⟨us, a1, a2⟩ := h (i + 1) x (by simpa using hx)
      exact ⟨us, a1, fun j u hu => by rw [show k + 1 + i = k + (i + 1) by omega]; exact a2 j u hu⟩)
    rwa [Nat.add_mul, Nat.one_mul, ← Nat.add_assoc] at this
theorem op_slice {t e : TypeId} {α : Type} {d : α → List D} {good : α → Prop} {μ : α → Nat} {sz : Nat} (hu : P.underlying t = some (.slice e)) (hd : ∀ M, M < N → Opn enc P M e d good μ) (hsz : P.cellsOf e = sz) (hpos : 0 < sz)
    (hlen : ∀ a, (d a).length = sz) (hck : ∀ a, ∀ x ∈ d a, V.cellOk (.d x) = true) :
    Opn enc P N t (fun xs : List α => [.slice xs.length (xs.flatMap d)]) (fun xs : List α => xs.length ≤ maxLen ∧ ∀ x ∈ xs, good x) (fun xs : List α => (xs.map μ).sum + 1) := by
  intro w sp held fuel cs x hN h
  rcases Deep.open_slice hu h with ⟨rfl, rfl⟩ | ⟨a, len, cap, m, n, D, Pl, rfl, hb, hl, hm, hmm, rfl, hx⟩
  · exact ⟨[], ⟨_, _, rfl, ⟨none, 0, rfl, ⟨Nat.le_refl _, by simp⟩, .inl rfl⟩, rfl⟩, ⟨by simp, fun x hx => by simp at hx⟩, by simp [uptoBulk]⟩
  · have hml : len ≤ m := by rw [hmm]; split <;> omega
    simp only [uptoBulk] at hN ⊢
    have hDb : ∀ i, i < len → uptoBulk (D i) ≤ uptoBulkAll ((List.range len).map D) := fun i hi => bulk_mem _ _ (List.mem_map.2 ⟨i, List.mem_range.2 hi, rfl⟩)
    obtain ⟨xs, hxl, hxs⟩ := list_lt (p := fun i v => ∃ cs', w.cells? 0 (a.add (i * P.cellsOf e)) (P.cellsOf e) = some cs' ∧ RepL (frOf w) w (d v) cs' ∧ good v ∧ μ v ≤ uptoBulk (D i)) len (fun i hi => by
      obtain ⟨cs', h1, h2⟩ := hx i (by omega)
      obtain ⟨v, hK, hg, hμ⟩ := hd (uptoBulk (D i)) (by have := hDb i hi; omega) w sp held n cs' (D i, Pl i) (Nat.le_refl _) h2
      exact ⟨v, cs', h1, hK, hg, hμ⟩)
    obtain ⟨blk, off, spot⟩ := a
    refine ⟨xs, ⟨_, _, rfl, ⟨some ⟨blk, off, spot⟩, cap, by rw [hxl], ⟨by rw [hxl]; exact hl, fun x hx => ?_⟩, ?_⟩, rfl⟩, ⟨by rw [hxl]; omega, fun x hx => ?_⟩, ?_⟩
    · obtain ⟨y, _, hy⟩ := List.mem_flatMap.1 hx
      exact hck y x hy
    · cases xs with
      | nil => exact .inl rfl
      | cons x0 xr =>
        right
        have hcell : ∀ (i : Nat) (v : α), (x0 :: xr)[i]? = some v → ∃ us : List Value, RepL (frOf w) w (d v) us ∧ us.length = sz ∧ ∀ j u, us[j]? = some u → w.cell? (Addr.add ⟨blk, off, spot⟩ (i * sz + j)) = some u := fun i v hv => by
          obtain ⟨cs', h1, hK, _, _⟩ := hxs i v hv
          obtain ⟨_, hcl, hc⟩ := World.cells?_some h1
          refine ⟨cs', hK, by rw [hcl, hsz], fun j u hj => ?_⟩
          have hjl : j < cs'.length := (List.getElem?_eq_some_iff.1 hj).1
          have := hc j (by omega)
          rw [hj] at this
          rw [← hsz, ← Addr.add_add]
          exact this
        have hspot : spot = none := by
          obtain ⟨us, _, h2, h3⟩ := hcell 0 x0 rfl
          have h4 := h3 0 (us[0]'(by omega)) (List.getElem?_eq_getElem _)
          simpa [Addr.add] using World.cell?_spot h4
        subst hspot
        refine ⟨blk, off, rfl, ?_⟩
        have := repAt_rows (w := w) d sz blk off (x0 :: xr) 0 (fun a _ => hlen a) (fun i v hv => by
          obtain ⟨us, h1, _, h3⟩ := hcell i v hv
          refine ⟨us, h1, fun j u hu => ?_⟩
          have := h3 j u hu
          unfold Addr.add at this
          split at this
          · rename_i hz
            have e1 : off + (0 + i) * sz + j = off := by rw [Nat.zero_add]; omega
            rw [e1]; exact this
          · rw [Nat.zero_add, Nat.add_assoc]; exact this)
        simpa using this
    · obtain ⟨i, hi⟩ := List.getElem?_of_mem hx
      exact (hxs i x hi).choose_spec.2.2.1
    · have := bulk_sum μ xs ((List.range len).map D) (by simp [hxl]) (fun i v y hv hy => by
        have hlt := (List.getElem?_eq_some_iff.1 hv).1
        rw [List.getElem?_map, List.getElem?_range (by omega)] at hy
        simp at hy
        subst hy
        exact (hxs i v hv).choose_spec.2.2.2)
      omega
variable (enc P) in
/-- The fields from an offset on. -/
def OpnFs (N : Nat) (fs : List Field) (off : Nat) {α : Type} (sz : Nat) (e : α → List D) (good : α → Prop) (μ : α → Nat) : Prop :=
  ∀ (w : World) (sp : Nat → Bool) (held : Bool) (n : Nat) (cs : List Value) (xs : List (DataW H × List MemPlace)), uptoBulkAll (xs.map (·.1)) ≤ N → xs.length = fs.length → cs.length = off + sz →
    (∀ (i : Nat) (f : Field), fs[i]? = some f → DataW.trod enc P w 0 sp held n f.type ((cs.drop f.offset).take (P.cellsOf f.type)) = xs[i]?) → ∃ v, RepL (frOf w) w (e v) (cs.drop off) ∧ good v ∧ μ v ≤ uptoBulkAll (xs.map (·.1))
theorem op_none (off : Nat) : OpnFs enc P N [] off 0 (fun _ : Unit => []) (fun _ => True) (fun _ => 0) := by
  intro w sp held n cs xs hN hl hc hf
  have : cs.drop off = [] := List.drop_eq_nil_of_le (by omega)
  exact ⟨(), this, trivial, by simp⟩
theorem op_more {f : Field} {fs : List Field} {off s1 s2 : Nat} {α β : Type} {a : α → List D} {b : β → List D} {ga : α → Prop} {gb : β → Prop} {ma : α → Nat} {mb : β → Nat} (ho : f.offset = off) (ha : Opn enc P N f.type a ga ma) (hs : P.cellsOf f.type = s1)
    (hb : OpnFs enc P N fs (off + s1) s2 b gb mb) : OpnFs enc P N (f :: fs) off (s1 + s2) (fun x : α × β => a x.1 ++ b x.2) (fun x => ga x.1 ∧ gb x.2) (fun x => ma x.1 + mb x.2) := by
  intro w sp held n cs xs hN hl hc hf
  match xs, hl with
  | y :: ys, hl =>
    have h := hf 0 f rfl
    simp only [List.map_cons, uptoBulkAll] at hN ⊢
    obtain ⟨v, hv, hg, hm⟩ := ha w sp held n _ y (by omega) (by simpa using h)
    obtain ⟨u, hu, hg2, hm2⟩ := hb w sp held n cs ys (by omega) (by simpa using hl) (by omega) (fun i g hi => by simpa using hf (i + 1) g (by simpa using hi))
    refine ⟨(v, u), ?_, ⟨hg, hg2⟩, by simp only []; omega⟩
    have := repL_append hv hu
    rw [ho, hs, ← List.drop_drop, List.take_append_drop] at this
    exact this
theorem op_struct {t : TypeId} {fs : Array Field} {α : Type} {e : α → List D} {good : α → Prop} {μ : α → Nat} {sz : Nat} (hu : P.underlying t = some (.struct fs)) (hc : P.cellsOf t = sz) (hd : ∀ M, M < N → OpnFs enc P M fs.toList 0 sz e good μ) :
    Opn enc P N t e good (fun y => μ y + 1) := by
  intro w sp held fuel cs x hN hx
  obtain ⟨xs, n, rfl, rfl, hl, hlen, hf⟩ := DataW.trod_struct hu hx
  simp only [uptoBulk] at hN ⊢
  obtain ⟨v, hK, hg, hm⟩ := hd (uptoBulkAll (xs.map (·.1))) (by omega) w sp held n cs xs (Nat.le_refl _) (by simpa using hlen) (by omega) (fun i f hi => hf i f (by simpa using hi))
  exact ⟨v, by simpa using hK, hg, by omega⟩
theorem Opn.map {t : TypeId} {α β : Type} {e : α → List D} {good : α → Prop} {μ : α → Nat} {e' : β → List D} {good' : β → Prop} {μ' : β → Nat} (h : Opn enc P N t e good μ) (f : α → β) (he : ∀ a, good a → e a = e' (f a)) (hg : ∀ a, good a → good' (f a)) (hm : ∀ a, good a → μ' (f a) ≤ μ a) : Opn enc P N t e' good' μ' := by
  intro w sp held fuel cs x hN hx
  obtain ⟨a, h1, h2, h3⟩ := h w sp held fuel cs x hN hx
  exact ⟨f a, he a h2 ▸ h1, hg a h2, Nat.le_trans (hm a h2) h3⟩
theorem Opn.mono {M : Nat} {t : TypeId} {α : Type} {d : α → List D} {good : α → Prop} {μ : α → Nat} (h : Opn enc P N t d good μ) (hM : M ≤ N) : Opn enc P M t d good μ := fun w sp held fuel cs x hb hx => h w sp held fuel cs x (Nat.le_trans hb hM) hx
end
/-- A law's contract: it answers, and what was there stands. -/
theorem law_of_TC {P : Program} {f : FuncId} {args : List V} {us : List Value} {W : World} {b : Bool} (h : TC P f args (.d (.bool b))) (hr : RepCs (frOf W) W args us []) :
    Calls P f us.toArray W fun e W' => e = .returned (.bool b) ∧ Below W.heap.size W W' := by
  refine (h.2 (frOf W) W us [] hr (by simp)).mono fun e W' hq => ?_
  obtain ⟨u, fr', bl', rfl, ho, _, hf, _⟩ := hq
  have hu : u = .bool b := ho.2
  exact ⟨by rw [hu], ⟨hf.os, hf.tape, hf.output, hf.size, fun k hk => (hf.keep k hk (by simp)).1⟩⟩
theorem rep_data {fr : Nat → Nat} {w : World} {x : D} {u : Value} (h : RepL fr w [x] [u]) (hx : ∀ cs, x ≠ .agg cs) : RepC fr w (.d x) u [] := by
  obtain ⟨u', s, e, h1, h2⟩ := h
  simp [RepL] at h2
  subst h2
  simp at e
  subst e
  exact ⟨rfl, by cases x <;> first | exact h1 | exact absurd rfl (hx _)⟩
theorem rep_agg {fr : Nat → Nat} {w : World} {ds : List D} {u : Array Value} (h : RepL fr w ds (Value.cells (.agg u)).toList) : RepC fr w (.agg (ds.map .d)) (.agg u) [] :=
  ⟨rfl, u.toList, by simp, repVs_of_repL (g := .bare fr) h⟩
end Go.Vk
