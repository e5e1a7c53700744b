/- '==' of structs and arrays of plain cells. -/
import Derived.Test.YtbdohnigbnhjnaaVkOps3
import Derived.Laws.StructEq
import Derived.ChangeKeysEq
set_option linter.unusedSimpArgs false
set_option linter.unusedVariables false
set_option linter.unusedSectionVars false
namespace Go.Vk
section
variable {P : Program} {g : G} {w : World} {ob : Gt} {U : Nat → Prop}
theorem run_part {t : TypeId} {cs : List Value} {off : Nat} {n : Option Nat} (ht : tyAgg P t = some n) :
    (n = none → ∀ u, cs[off]? = some u → (part t cs.toArray off).run P w = .ok u w) ∧ (∀ k, n = some k → (part t cs.toArray off).run P w = .ok (.agg (((cs.drop off).take k).toArray)) w) := by
  refine ⟨fun hn u hu => ?_, fun k hk => ?_⟩
  · subst hn; simp [part, run_isAgg' ht, hu]
  · subst hk
    simp [part, run_isAgg' ht, run_sizeOf' (tySize_of_agg ht)]


/-- A value out of its cells. -/
def pk (P : Program) (t : TypeId) (us : List Value) : Value := match tyAgg P t with
  | some (some _) => .agg us.toArray
  | _ => us.headD undef
theorem eqD_run {c : CK} {a b : V} {r : Bool} {u v : Value} (h : eqD c a b = some r) (ha : RepV g w U a u) (hb : RepV g w U b v) :
    (c = .int ∧ ∃ k x y, u = .int k x ∧ v = .int k y ∧ r = (x == y)) ∨ (c = .str ∧ ∃ x y : List UInt8, u = .string ⟨x.toArray⟩ ∧ v = .string ⟨y.toArray⟩ ∧ r = (x == y)) ∨ (c = .bool ∧ ∃ x y, u = .bool x ∧ v = .bool y ∧ r = (x == y)) := by
  unfold eqD at h
  split at h
  · simp at h; simp [RepV, RepD] at ha hb; exact .inr (.inr ⟨rfl, _, _, ha, hb, h.symm⟩)
  · split at h
    · rename_i hk
      subst hk
      simp at h; simp [RepV, RepD] at ha hb; exact .inl ⟨rfl, _, _, _, ha, hb, h.symm⟩
    · simp at h
  · simp at h; simp [RepV, RepD] at ha hb; exact .inr (.inl ⟨rfl, _, _, ha, hb, h.symm⟩)
  · simp at h
theorem eqCells_len : ∀ {ks : List CK} {a b : List V} {r : Bool}, eqCells ks a b = some r → a.length = ks.length ∧ b.length = ks.length
  | [], [], [], _, _ => ⟨rfl, rfl⟩
  | [], [], _ :: _, _, h => by simp [eqCells] at h
  | [], _ :: _, _, _, h => by simp [eqCells] at h
  | _ :: _, [], _, _, h => by simp [eqCells] at h
  | _ :: _, _ :: _, [], _, h => by simp [eqCells] at h
  | c :: ks, x :: a, y :: b, r, h => by
    simp only [eqCells] at h
    split at h
    · split at h
      · rename_i h2
        have := eqCells_len h2
        simp [this]
      · simp at h
    · simp at h
theorem eqCells_app : ∀ {ks ls : List CK} {a b : List V} {r : Bool}, eqCells (ks ++ ls) a b = some r → ∃ r1 r2, eqCells ks (a.take ks.length) (b.take ks.length) = some r1 ∧ eqCells ls (a.drop ks.length) (b.drop ks.length) = some r2 ∧ r = (r1 && r2)
  | [], ls, a, b, r, h => ⟨true, r, by simp [eqCells], by simpa using h, by simp⟩
  | c :: ks, ls, a, b, r, h => by
    match a, b with
    | [], _ => simp [eqCells] at h
    | _ :: _, [] => simp [eqCells] at h
    | x :: a, y :: b =>
      simp only [List.cons_append, eqCells] at h
      split at h
      · rename_i z hz
        split at h
        · rename_i r' hr
          simp at h; subst h
          obtain ⟨r1, r2, e1, e2, rfl⟩ := eqCells_app hr
          exact ⟨z && r1, r2, by simp [eqCells, hz, e1], by simpa using e2, by simp [Bool.and_assoc]⟩
        · simp at h
      · simp at h
theorem run_part' {t : TypeId} {n : Option Nat} {cs : List Value} {off m : Nat} (ht : tyAgg P t = some n) (hm : (n = none ∧ m = 1) ∨ n = some m) (hl : off + m ≤ cs.length) : (part t cs.toArray off).run P w = .ok (pk P t ((cs.drop off).take m)) w := by
  obtain ⟨h1, h2⟩ := run_part (w := w) (cs := cs) (off := off) ht
  unfold pk
  rw [ht]
  rcases hm with ⟨rfl, rfl⟩ | rfl
  · have hlt : off < cs.length := by omega
    rw [h1 rfl cs[off] (List.getElem?_eq_getElem hlt)]
    have : cs.drop off = cs[off] :: cs.drop (off + 1) := List.drop_eq_getElem_cons hlt
    rw [this]; rfl
  · exact h2 m rfl
theorem eqT_agg : ∀ {d : Nat} {t : TypeId} {ks : List CK}, eqT P d t = some ks → ∃ n, tyAgg P t = some n ∧ ((n = none ∧ ks.length = 1) ∨ n = some ks.length)
  | 0, _, _, h => by simp [eqT] at h
  | d + 1, t, ks, h => by
    simp only [eqT] at h
    split at h
    · rename_i h2; simp at h; subst h; exact ⟨none, h2, .inl ⟨rfl, rfl⟩⟩
    · rename_i h2; simp at h; subst h; exact ⟨none, h2, .inl ⟨rfl, rfl⟩⟩
    · rename_i h2; simp at h; subst h; exact ⟨none, h2, .inl ⟨rfl, rfl⟩⟩
    · rename_i n h1 h2
      split at h
      · simp at h
      · split at h
        · split at h
          · rename_i hn; simp at h; subst h; exact ⟨some n, h2, .inr (by rw [hn])⟩
          · simp at h
        · simp at h
    · rename_i n h1 h2
      split at h
      · split at h
        · rename_i hn
          simp at h; subst h
          refine ⟨some n, h2, .inr ?_⟩
          simp [List.length_flatten, ← hn.1]
        · simp at h
      · simp at h
    · simp at h
theorem eqT_notnone {d : Nat} {t : TypeId} {ks : List CK} (h : eqT P d t = some ks) {a : TypeDesc} (hu : P.underlying t = some a) (ha : (∃ fs, a = .struct fs) ∨ ∃ n e, a = .array n e) : tyAgg P t ≠ some none := by
  intro hn
  unfold tyAgg at hn
  rcases ha with ⟨fs, rfl⟩ | ⟨n, e, rfl⟩ <;> rw [hu] at hn <;> cases hi : P.info? t <;> simp [hi] at hn
theorem eqFs_run {d d' : Nat} (ih : ∀ (t : TypeId) (ks : List CK) (a b : List V) (us vs : List Value) (r : Bool), eqT P d t = some ks → RepVs g w U a us → RepVs g w U b vs → eqCells ks a b = some r → (Op.equalIn d' t (pk P t us) (pk P t vs)).run P w = .ok r w) :
    ∀ (fs : List Field) (off : Nat) (ks : List CK) (a b : List V) (us vs : List Value) (r : Bool), eqFs (eqT P d) fs off = some ks → RepVs g w U a us → RepVs g w U b vs → eqCells ks (a.drop off) (b.drop off) = some r →
      (Op.eqFields d' us.toArray vs.toArray fs).run P w = .ok r w
  | [], off, ks, a, b, us, vs, r, h, ha, hb, hr => by
    simp [eqFs] at h; subst h
    have : r = true := by
      cases h1 : a.drop off <;> cases h2 : b.drop off <;> simp [h1, h2, eqCells] at hr
      exact hr
    subst this
    simp [Op.eqFields]
  | f :: fs, off, ks, a, b, us, vs, r, h, ha, hb, hr => by
    simp only [eqFs] at h
    split at h
    · rename_i hf
      split at h
      · rename_i k1 h1
        split at h
        · simp at h
        rename_i hk0
        split at h
        · rename_i k2 h2
          simp at h; subst h
          obtain ⟨l1, l2⟩ := eqCells_len hr
          simp only [List.length_append, List.length_drop] at l1 l2
          obtain ⟨r1, r2, e1, e2, rfl⟩ := eqCells_app hr
          obtain ⟨n, hn, hn2⟩ := eqT_agg h1
          have hk : 1 ≤ k1.length ∨ k1.length = 0 := by omega
          have la := repVs_length ha
          have lb := repVs_length hb
          by_cases hz : off + k1.length ≤ us.length ∧ off + k1.length ≤ vs.length
          · have p1 := run_part' (w := w) (cs := us) (off := off) hn (hn2.elim (fun h => .inl ⟨h.1, h.2⟩) .inr) hz.1
            have p2 := run_part' (w := w) (cs := vs) (off := off) hn (hn2.elim (fun h => .inl ⟨h.1, h.2⟩) .inr) hz.2
            have p3 := ih f.type k1 _ _ _ _ r1 h1 (repVs_take k1.length (repVs_drop off ha)) (repVs_take k1.length (repVs_drop off hb)) e1
            have p4 := eqFs_run ih fs (off + k1.length) k2 a b us vs r2 h2 ha hb (by simpa [List.drop_drop] using e2)
            simp only [Op.eqFields]
            rw [if_pos hf.2]
            simp only [hf.1, Sem.run_bind, p1, p2, p3, Result.andThen_ok]
            cases r1
            · simp
            · simp [p4]
          · omega
        · simp at h
      · simp at h
    · simp at h
theorem eqRun : ∀ (d : Nat) (t : TypeId) (ks : List CK) (a b : List V) (us vs : List Value) (r : Bool) (d' : Nat), d ≤ d' → eqT P d t = some ks → RepVs g w U a us → RepVs g w U b vs → eqCells ks a b = some r → (Op.equalIn d' t (pk P t us) (pk P t vs)).run P w = .ok r w := by
  intro d
  induction d with
  | zero => intro t ks a b us vs r d' _ h; simp [eqT] at h
  | succ d ih =>
    intro t ks a b us vs r d' hd h ha hb hr
    obtain ⟨d', rfl⟩ : ∃ m, d' = m + 1 := ⟨d' - 1, by omega⟩
    have hone : ∀ c, ks = [c] → ∃ x y u v, a = [x] ∧ b = [y] ∧ us = [u] ∧ vs = [v] ∧ RepV g w U x u ∧ RepV g w U y v ∧ eqD c x y = some r := by
      intro c hc
      subst hc
      match a, b, ha, hb with
      | [], _, _, _ => simp [eqCells] at hr
      | _ :: _, [], _, _ => simp [eqCells] at hr
      | x :: a, y :: b, ha, hb =>
        simp only [eqCells] at hr
        split at hr
        · rename_i z hz
          match a, b, ha, hb with
          | [], [], ha, hb =>
            simp [eqCells] at hr; subst hr
            obtain ⟨u, s, rfl, h1, h2⟩ := ha
            obtain ⟨v, s', rfl, h3, h4⟩ := hb
            simp [RepVs] at h2 h4
            subst h2 h4
            exact ⟨x, y, u, v, rfl, rfl, rfl, rfl, h1, h3, hz⟩
          | _ :: _, _, _, _ => simp [eqCells] at hr
          | [], _ :: _, _, _ => simp [eqCells] at hr
        · simp at hr
    simp only [eqT] at h
    split at h
    · rename_i k hu hag
      simp at h; subst h
      obtain ⟨x, y, u, v, rfl, rfl, rfl, rfl, h1, h2, h3⟩ := hone _ rfl
      rcases eqD_run h3 h1 h2 with ⟨_, k, p, q, rfl, rfl, rfl⟩ | ⟨h, _⟩ | ⟨h, _⟩
      · simp [pk, hag, Op.equalIn, run_underlying hu]
      · cases h
      · cases h
    · rename_i hu hag
      simp at h; subst h
      obtain ⟨x, y, u, v, rfl, rfl, rfl, rfl, h1, h2, h3⟩ := hone _ rfl
      rcases eqD_run h3 h1 h2 with ⟨h, _⟩ | ⟨_, p, q, rfl, rfl, rfl⟩ | ⟨h, _⟩
      · cases h
      · have := run_equalIn_string (P := P) w d' t ⟨p.toArray⟩ ⟨q.toArray⟩ hu
        simp only [pk, hag, List.headD_cons, this, ByteArray.toList_eq]
      · cases h
    · rename_i hu hag
      simp at h; subst h
      obtain ⟨x, y, u, v, rfl, rfl, rfl, rfl, h1, h2, h3⟩ := hone _ rfl
      rcases eqD_run h3 h1 h2 with ⟨h, _⟩ | ⟨h, _⟩ | ⟨_, p, q, rfl, rfl, rfl⟩
      · cases h
      · cases h
      · have := run_equalIn_bool' (P := P) w d' t p q hu
        simp only [pk, hag, List.headD_cons, this]
    · rename_i fs n hu hag
      split at h
      · simp at h
      · rename_i hst
        split at h
        · rename_i ks' hfs
          split at h
          · simp at h; subst h
            have hfo : P.fieldsOf t = fs := by simp [Program.fieldsOf, hu]
            have := run_equalIn_struct (P := P) w d' t us.toArray vs.toArray (by rw [hfo]; exact hu) (by simpa using hst)
            have e := eqFs_run (d := d) (d' := d') (fun t ks a b us vs r h1 h2 h3 h4 => ih t ks a b us vs r d' (by omega) h1 h2 h3 h4) fs.toList 0 ks' a b us vs r hfs ha hb (by simpa using hr)
            simp only [pk, hag]
            rw [this, hfo, e]
          · simp at h
        · simp at h
    · rename_i len e n hu hag
      split at h
      · rename_i ks' hk
        split at h
        · rename_i hn
          simp at h; subst h
          obtain ⟨nn, hnn, hn2⟩ := eqT_agg hk
          have hinfo : ∃ i, P.info? e = some i ∧ i.size = ks'.length := by
            have := hn.2
            unfold tySize at this
            cases hi : P.info? e with
            | none => simp [hi] at this
            | some i => simp [hi] at this; exact ⟨i, rfl, this⟩
          obtain ⟨i, hi, hisz⟩ := hinfo
          have hcells : P.cellsOf e = ks'.length := by simp [Program.cellsOf, hi, hisz]
          have la := repVs_length ha
          have lb := repVs_length hb
          obtain ⟨l1, l2⟩ := eqCells_len hr
          have hfl : (List.flatten (List.replicate len ks')).length = len * ks'.length := by simp [List.length_flatten]
          have key : ∀ (m i : Nat) (r : Bool), i + m = len → eqCells (List.flatten (List.replicate m ks')) (a.drop (i * ks'.length)) (b.drop (i * ks'.length)) = some r →
              (Op.eqItems d' e (P.cellsOf e) us.toArray vs.toArray (List.range' i m)).run P w = .ok r w := by
            intro m
            induction m with
            | zero =>
              intro i r _ h
              have : r = true := by
                cases h1 : a.drop (i * ks'.length) <;> cases h2 : b.drop (i * ks'.length) <;> simp [h1, h2, eqCells] at h
                exact h
              subst this
              simp [Op.eqItems]
            | succ m ihm =>
              intro i r him h
              rw [List.replicate_succ, List.flatten_cons] at h
              obtain ⟨r1, r2, e1, e2, rfl⟩ := eqCells_app h
              have hmul : i * ks'.length + ks'.length ≤ len * ks'.length := by
                rw [← Nat.succ_mul]; exact Nat.mul_le_mul_right _ (by omega)
              have p1 := run_part' (w := w) (cs := us) (off := i * ks'.length) hnn (hn2.elim (fun h => .inl ⟨h.1, h.2⟩) .inr) (by omega)
              have p2 := run_part' (w := w) (cs := vs) (off := i * ks'.length) hnn (hn2.elim (fun h => .inl ⟨h.1, h.2⟩) .inr) (by omega)
              have p3 := ih e ks' _ _ _ _ r1 d' (by omega) hk (repVs_take ks'.length (repVs_drop (i * ks'.length) ha)) (repVs_take ks'.length (repVs_drop (i * ks'.length) hb)) e1
              have p4 := ihm (i + 1) r2 (by omega) (by rw [Nat.succ_mul]; simpa [List.drop_drop] using e2)
              rw [hcells] at p4 ⊢
              simp only [List.range'_succ, Op.eqItems, Sem.run_bind, p1, p2, p3, Result.andThen_ok]
              cases r1
              · simp
              · simp [p4]
          have := run_equalIn_array (P := P) w d' us.toArray vs.toArray hu hi
          have k0 := key len 0 r (by omega) (by simpa using hr)
          simp only [pk, hag]
          rw [this, List.range_eq_range']
          exact k0
        · simp at h
      · simp at h
    · simp at h
end
end Go.Vk
