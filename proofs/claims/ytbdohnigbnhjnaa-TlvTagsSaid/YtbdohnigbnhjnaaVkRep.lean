/- What ideal values stand for in memory; what stays so while memory grows. -/
import Derived.Test.YtbdohnigbnhjnaaVkDef
set_option linter.unusedSimpArgs false
set_option linter.unusedVariables false
set_option linter.unusedSectionVars false
namespace Go.Vk

mutual
def RepD (fr : Nat → Nat) (w : World) : D → Value → Prop
  | .bool b, v => v = .bool b
  | .int k n, v => v = .int k n
  | .str s, v => v = .string ⟨s.toArray⟩
  | .slice len cs, v => ∃ a cap, v = .slice a len cap ∧ (len ≤ cap ∧ ∀ x ∈ cs, V.cellOk (.d x) = true) ∧ (cs = [] ∨ ∃ b off, a = some ⟨b, off, none⟩ ∧ RepAt fr w cs b off)
  | .nilIface, v => v = .nilIface
  | .iface t x, v => ∃ u, v = .iface t u ∧ RepD fr w x u
  | .agg cs, v => ∃ us : List Value, v = .agg us.toArray ∧ RepL fr w cs us
def RepAt (fr : Nat → Nat) (w : World) : List D → Nat → Nat → Prop
  | [], _, _ => True
  | d :: r, b, off => (off < fr b ∧ ∃ u, w.cell? ⟨b, off, none⟩ = some u ∧ RepD fr w d u) ∧ RepAt fr w r b (off + 1)
def RepL (fr : Nat → Nat) (w : World) : List D → List Value → Prop
  | [], us => us = []
  | d :: r, us => ∃ u s, us = u :: s ∧ RepD fr w d u ∧ RepL fr w r s
end

/-- What is settled stays as it is. -/
def Ext (fr : Nat → Nat) (w : World) (fr' : Nat → Nat) (w' : World) : Prop :=
  ∀ b o u, o < fr b → w.cell? ⟨b, o, none⟩ = some u → o < fr' b ∧ w'.cell? ⟨b, o, none⟩ = some u

theorem Ext.refl (fr : Nat → Nat) (w : World) : Ext fr w fr w := fun _ _ _ h h' => ⟨h, h'⟩
theorem Ext.trans {f1 f2 f3 : Nat → Nat} {w1 w2 w3 : World} (h : Ext f1 w1 f2 w2) (k : Ext f2 w2 f3 w3) : Ext f1 w1 f3 w3 :=
  fun b o u h1 h2 => let ⟨a, c⟩ := h b o u h1 h2; k b o u a c

mutual
theorem RepD.mono {fr fr' : Nat → Nat} {w w' : World} (h : Ext fr w fr' w') : ∀ (x : D) (v : Value), RepD fr w x v → RepD fr' w' x v
  | .bool _, _, e => e
  | .int _ _, _, e => e
  | .str _, _, e => e
  | .slice _ cs, _, e => by
    obtain ⟨a, cap, e1, e2, e4⟩ := e
    refine ⟨a, cap, e1, e2, ?_⟩
    rcases e4 with e4 | ⟨b, off, e5, e6⟩
    · exact .inl e4
    · exact .inr ⟨b, off, e5, RepAt.mono h cs b off e6⟩
  | .nilIface, _, e => e
  | .iface _ x, _, e => by
    obtain ⟨u, e1, e2⟩ := e
    exact ⟨u, e1, RepD.mono h x u e2⟩
  | .agg cs, _, e => by
    obtain ⟨us, e1, e2⟩ := e
    exact ⟨us, e1, RepL.mono h cs us e2⟩
theorem RepAt.mono {fr fr' : Nat → Nat} {w w' : World} (h : Ext fr w fr' w') : ∀ (cs : List D) (b off : Nat), RepAt fr w cs b off → RepAt fr' w' cs b off
  | [], _, _, _ => trivial
  | d :: r, b, off, e => by
    obtain ⟨⟨e1, u, e2, e3⟩, e4⟩ := e
    obtain ⟨h1, h2⟩ := h b off u e1 e2
    exact ⟨⟨h1, u, h2, RepD.mono h d u e3⟩, RepAt.mono h r b (off + 1) e4⟩
theorem RepL.mono {fr fr' : Nat → Nat} {w w' : World} (h : Ext fr w fr' w') : ∀ (cs : List D) (us : List Value), RepL fr w cs us → RepL fr' w' cs us
  | [], _, e => e
  | d :: r, _, e => by
    obtain ⟨u, s, e1, e2, e3⟩ := e
    exact ⟨u, s, e1, RepD.mono h d u e2, RepL.mono h r s e3⟩
end

section
variable {fr : Nat → Nat} {w : World}
theorem repAt_drop : ∀ (k : Nat) {cs : List D} {b off : Nat}, RepAt fr w cs b off → k ≤ cs.length → RepAt fr w (cs.drop k) b (off + k)
  | 0, _, _, _, h, _ => h
  | k + 1, [], _, _, _, h => absurd h (by simp)
  | k + 1, _ :: r, b, off, h, hk => by
    have := repAt_drop k (cs := r) (b := b) (off := off + 1) h.2 (by simpa using hk)
    simpa [Nat.add_assoc, Nat.add_comm 1 k] using this
theorem repAt_take : ∀ (k : Nat) {cs : List D} {b off : Nat}, RepAt fr w cs b off → RepAt fr w (cs.take k) b off
  | 0, _, _, _, _ => by simp [RepAt]
  | k + 1, [], _, _, _ => by simp [RepAt]
  | k + 1, _ :: r, b, off, h => ⟨h.1, repAt_take k h.2⟩
theorem repAt_get : ∀ (i : Nat) {cs : List D} {b off : Nat} {x : D}, RepAt fr w cs b off → cs[i]? = some x → ∃ u, w.cell? ⟨b, off + i, none⟩ = some u ∧ RepD fr w x u
  | 0, [], _, _, _, _, h => by simp at h
  | 0, d :: r, b, off, x, h, hx => by
    simp at hx; subst hx
    exact h.1.2
  | i + 1, [], _, _, _, _, h => by simp at h
  | i + 1, d :: r, b, off, x, h, hx => by
    have := repAt_get i (x := x) h.2 (by simpa using hx)
    rwa [show off + 1 + i = off + (i + 1) by omega] at this
/-- The cells as values. -/
theorem repAt_vals : ∀ {cs : List D} {b off : Nat}, RepAt fr w cs b off → ∃ us : List Value, us.length = cs.length ∧ RepL fr w cs us ∧ ∀ i u, us[i]? = some u → w.cell? ⟨b, off + i, none⟩ = some u
  | [], _, _, _ => ⟨[], rfl, rfl, by simp⟩
  | d :: r, b, off, h => by
    obtain ⟨⟨_, u, h2, h3⟩, h4⟩ := h
    obtain ⟨us, l, hr, hc⟩ := repAt_vals h4
    refine ⟨u :: us, by simp [l], ⟨u, us, rfl, h3, hr⟩, ?_⟩
    intro i v hv
    cases i with
    | zero => simp at hv; subst hv; exact h2
    | succ i =>
      have := hc i v (by simpa using hv)
      rwa [show off + 1 + i = off + (i + 1) by omega] at this
theorem repL_length : ∀ {cs : List D} {us : List Value}, RepL fr w cs us → us.length = cs.length
  | [], _, h => by simp [RepL] at h; simp [h]
  | d :: r, _, h => by obtain ⟨u, s, rfl, _, h3⟩ := h; simp [repL_length h3]
theorem repL_get : ∀ (i : Nat) {cs : List D} {us : List Value} {x : D}, RepL fr w cs us → cs[i]? = some x → ∃ u, us[i]? = some u ∧ RepD fr w x u
  | _, [], _, _, _, h => by simp at h
  | 0, d :: r, _, x, h, hx => by
    obtain ⟨u, s, rfl, h2, h3⟩ := h
    simp at hx; subst hx; exact ⟨u, rfl, h2⟩
  | i + 1, d :: r, _, x, h, hx => by
    obtain ⟨u, s, rfl, h2, h3⟩ := h
    exact repL_get i h3 (by simpa using hx)
theorem repL_append : ∀ {a b : List D} {us vs : List Value}, RepL fr w a us → RepL fr w b vs → RepL fr w (a ++ b) (us ++ vs)
  | [], _, _, _, h, k => by simp [RepL] at h; subst h; exact k
  | d :: r, _, _, _, h, k => by obtain ⟨u, s, rfl, h2, h3⟩ := h; exact ⟨u, _, rfl, h2, repL_append h3 k⟩
theorem repL_take : ∀ (k : Nat) {a : List D} {us : List Value}, RepL fr w a us → RepL fr w (a.take k) (us.take k)
  | 0, _, _, _ => by simp [RepL]
  | k + 1, [], _, h => by simp [RepL] at h; subst h; simp [RepL]
  | k + 1, d :: r, _, h => by obtain ⟨u, s, rfl, h2, h3⟩ := h; exact ⟨u, _, rfl, h2, repL_take k h3⟩
theorem repL_drop : ∀ (k : Nat) {a : List D} {us : List Value}, RepL fr w a us → RepL fr w (a.drop k) (us.drop k)
  | 0, _, _, h => h
  | k + 1, [], _, h => by simp [RepL] at h; subst h; simp [RepL]
  | k + 1, d :: r, _, h => by obtain ⟨u, s, rfl, h2, h3⟩ := h; exact repL_drop k h3
theorem repL_splice {a b : List D} {us vs : List Value} (k : Nat) (h : RepL fr w a us) (h' : RepL fr w b vs) : RepL fr w (splice a k b) (splice us k vs) := by
  unfold splice
  rw [repL_length h']
  exact repL_append (repL_take k h) (repL_append h' (repL_drop _ h))
/-- Cells of a block that hold these values, settled. -/
theorem repAt_of_vals : ∀ {cs : List D} {us : List Value} {b off : Nat}, RepL fr w cs us → (∀ i u, us[i]? = some u → w.cell? ⟨b, off + i, none⟩ = some u) → off + cs.length ≤ fr b → RepAt fr w cs b off
  | [], _, _, _, _, _, _ => trivial
  | d :: r, _, b, off, h, hc, hf => by
    obtain ⟨u, s, rfl, h2, h3⟩ := h
    simp at hf
    refine ⟨⟨by omega, u, by simpa using hc 0 u rfl, h2⟩, repAt_of_vals h3 ?_ (by omega)⟩
    intro i v hv
    have := hc (i + 1) v (by simpa using hv)
    rwa [show off + (i + 1) = off + 1 + i by omega] at this
theorem repD_one {x : D} {v : Value} (h : RepD fr w x v) (hx : V.cellOk (.d x) = true) : v.oneCell' = true := by
  cases x with
  | bool => simp [RepD] at h; subst h; rfl
  | int => simp [RepD] at h; subst h; rfl
  | str => simp [RepD] at h; subst h; rfl
  | slice => obtain ⟨_, _, rfl, _⟩ := h; rfl
  | nilIface => simp [RepD] at h; subst h; rfl
  | iface => obtain ⟨_, rfl, _⟩ := h; rfl
  | agg => simp [V.cellOk] at hx
end

/-! ### values over objects -/
/-- What the objects are in memory: how far a block is settled; an object's block; an owned slice's value. -/
structure G where
  fr : Nat → Nat
  ph : Nat → Nat
  vt : Nat → Value

mutual
def RepV (g : G) (w : World) (U : Nat → Prop) : V → Value → Prop
  | .d x, u => RepD g.fr w x u
  | .nils, u => ∃ a, u = .slice a 0 0
  | .own t len, u => U t ∧ u = g.vt t ∧ ∃ a c, u = .slice a len c
  | .fresh .., _ => False
  | .fbox _, _ => False
  | .ptr b off, u => U b ∧ u = .pointer (some ⟨g.ph b, off, none⟩)
  | .dptr cs, u => ∃ b off, u = .pointer (some ⟨b, off, none⟩) ∧ RepAt g.fr w cs b off
  | .nilp, u => u = .pointer none
  | .fn f caps, u => ∃ us : List Value, u = .func (.func f) #[] us.toArray ∧ RepVs g w U caps us
  | .nilfn, u => u = .nilFunc
  | .agg cs, u => ∃ us : List Value, u = .agg us.toArray ∧ RepVs g w U cs us
  | .tup vs, u => ∃ us : List Value, u = .tuple us.toArray ∧ RepVs g w U vs us
  | .dead, _ => True
def RepVs (g : G) (w : World) (U : Nat → Prop) : List V → List Value → Prop
  | [], us => us = []
  | v :: r, us => ∃ u s, us = u :: s ∧ RepV g w U v u ∧ RepVs g w U r s
end

/-- Objects below nx are what they were; what is settled stays. -/
structure Le (g : G) (w : World) (U : Nat → Prop) (g' : G) (w' : World) (U' : Nat → Prop) : Prop where
  ext : Ext g.fr w g'.fr w'
  ph : ∀ t, U t → g'.ph t = g.ph t
  vt : ∀ t, U t → g'.vt t = g.vt t
  used : ∀ t, U t → U' t

theorem Le.refl (g : G) (w : World) (U : Nat → Prop) : Le g w U g w U := ⟨.refl _ _, fun _ _ => rfl, fun _ _ => rfl, fun _ h => h⟩
theorem Le.trans {g1 g2 g3 : G} {w1 w2 w3 : World} {n1 n2 n3 : Nat → Prop} (h : Le g1 w1 n1 g2 w2 n2) (k : Le g2 w2 n2 g3 w3 n3) : Le g1 w1 n1 g3 w3 n3 :=
  ⟨h.ext.trans k.ext, fun t ht => (k.ph t (h.used t ht)).trans (h.ph t ht), fun t ht => (k.vt t (h.used t ht)).trans (h.vt t ht), fun t ht => k.used t (h.used t ht)⟩

mutual
theorem RepV.mono {g g' : G} {w w' : World} {U U' : Nat → Prop} (h : Le g w U g' w' U') : ∀ (x : V) (v : Value), RepV g w U x v → RepV g' w' U' x v
  | .d x, v, e => RepD.mono h.ext x v e
  | .nils, _, e => e
  | .own _ _, _, e => ⟨h.used _ e.1, e.2.1.trans (h.vt _ e.1).symm, e.2.2⟩
  | .fresh .., _, e => e
  | .fbox _, _, e => e
  | .ptr _ _, _, e => ⟨h.used _ e.1, by rw [h.ph _ e.1]; exact e.2⟩
  | .dptr cs, _, e => by obtain ⟨b, off, e1, e2⟩ := e; exact ⟨b, off, e1, RepAt.mono h.ext cs b off e2⟩
  | .nilp, _, e => e
  | .fn _ caps, _, e => by obtain ⟨us, e1, e2⟩ := e; exact ⟨us, e1, RepVs.mono h caps us e2⟩
  | .nilfn, _, e => e
  | .agg cs, _, e => by obtain ⟨us, e1, e2⟩ := e; exact ⟨us, e1, RepVs.mono h cs us e2⟩
  | .tup cs, _, e => by obtain ⟨us, e1, e2⟩ := e; exact ⟨us, e1, RepVs.mono h cs us e2⟩
  | .dead, _, _ => trivial
theorem RepVs.mono {g g' : G} {w w' : World} {U U' : Nat → Prop} (h : Le g w U g' w' U') : ∀ (xs : List V) (vs : List Value), RepVs g w U xs vs → RepVs g' w' U' xs vs
  | [], _, e => e
  | x :: r, _, e => by obtain ⟨u, s, e1, e2, e3⟩ := e; exact ⟨u, s, e1, RepV.mono h x u e2, RepVs.mono h r s e3⟩
end

section
variable {g : G} {w : World} {U : Nat → Prop}
theorem repVs_length : ∀ {cs : List V} {us : List Value}, RepVs g w U cs us → us.length = cs.length
  | [], _, h => by simp [RepVs] at h; simp [h]
  | d :: r, _, h => by obtain ⟨u, s, rfl, _, h3⟩ := h; simp [repVs_length h3]
theorem repVs_get : ∀ (i : Nat) {cs : List V} {us : List Value} {x : V}, RepVs g w U cs us → cs[i]? = some x → ∃ u, us[i]? = some u ∧ RepV g w U x u
  | _, [], _, _, _, h => by simp at h
  | 0, d :: r, _, x, h, hx => by
    obtain ⟨u, s, rfl, h2, h3⟩ := h
    simp at hx; subst hx; exact ⟨u, rfl, h2⟩
  | i + 1, d :: r, _, x, h, hx => by
    obtain ⟨u, s, rfl, h2, h3⟩ := h
    exact repVs_get i h3 (by simpa using hx)
theorem repVs_append : ∀ {a b : List V} {us vs : List Value}, RepVs g w U a us → RepVs g w U b vs → RepVs g w U (a ++ b) (us ++ vs)
  | [], _, _, _, h, k => by simp [RepVs] at h; subst h; exact k
  | d :: r, _, _, _, h, k => by obtain ⟨u, s, rfl, h2, h3⟩ := h; exact ⟨u, _, rfl, h2, repVs_append h3 k⟩
theorem repVs_take : ∀ (k : Nat) {a : List V} {us : List Value}, RepVs g w U a us → RepVs g w U (a.take k) (us.take k)
  | 0, _, _, _ => by simp [RepVs]
  | k + 1, [], _, h => by simp [RepVs] at h; subst h; simp [RepVs]
  | k + 1, d :: r, _, h => by obtain ⟨u, s, rfl, h2, h3⟩ := h; exact ⟨u, _, rfl, h2, repVs_take k h3⟩
theorem repVs_drop : ∀ (k : Nat) {a : List V} {us : List Value}, RepVs g w U a us → RepVs g w U (a.drop k) (us.drop k)
  | 0, _, _, h => h
  | k + 1, [], _, h => by simp [RepVs] at h; subst h; simp [RepVs]
  | k + 1, d :: r, _, h => by obtain ⟨u, s, rfl, h2, h3⟩ := h; exact repVs_drop k h3
theorem repVs_splice {a b : List V} {us vs : List Value} (k : Nat) (h : RepVs g w U a us) (h' : RepVs g w U b vs) : RepVs g w U (splice a k b) (splice us k vs) := by
  unfold splice
  rw [repVs_length h']
  exact repVs_append (repVs_take k h) (repVs_append h' (repVs_drop _ h))
theorem repVs_of_repL : ∀ {cs : List D} {us : List Value}, RepL g.fr w cs us → RepVs g w U (cs.map .d) us
  | [], _, h => h
  | d :: r, _, h => by obtain ⟨u, s, rfl, h2, h3⟩ := h; exact ⟨u, s, rfl, h2, repVs_of_repL h3⟩
theorem repVs_map {α : Type} (f : α → V) (k : α → Value) : ∀ (l : List α), (∀ x ∈ l, RepV g w U (f x) (k x)) → RepVs g w U (l.map f) (l.map k)
  | [], _ => rfl
  | x :: r, h => ⟨k x, r.map k, rfl, h x (by simp), repVs_map f k r fun y hy => h y (by simp [hy])⟩
theorem repV_cells {x : V} {v : Value} (h : RepV g w U x v) (hx : x ≠ .dead) (ht : ∀ d, x ≠ .d (.agg d)) : RepVs g w U x.cells v.cells.toList := by
  have one : ∀ {x : V} {v : Value}, RepV g w U x v → v.cells = #[v] → x.cells = [x] → RepVs g w U x.cells v.cells.toList := fun h e1 e2 => by
    rw [e1, e2]; exact ⟨_, [], rfl, h, rfl⟩
  cases x with
  | agg cs => obtain ⟨us, rfl, h2⟩ := h; simpa [V.cells, Value.cells] using h2
  | d x =>
    refine one h ?_ rfl
    cases x with
    | agg d => exact absurd rfl (ht d)
    | bool => simp [RepV, RepD] at h; subst h; rfl
    | int => simp [RepV, RepD] at h; subst h; rfl
    | str => simp [RepV, RepD] at h; subst h; rfl
    | slice => obtain ⟨_, _, rfl, _⟩ := h; rfl
    | nilIface => simp [RepV, RepD] at h; subst h; rfl
    | iface => obtain ⟨_, rfl, _⟩ := h; rfl
  | nils => obtain ⟨a, rfl⟩ := h; exact ⟨_, [], rfl, ⟨a, rfl⟩, rfl⟩
  | own t l => refine one h ?_ rfl; obtain ⟨_, _, a, c, rfl⟩ := h; rfl
  | fresh => exact h.elim
  | fbox => exact h.elim
  | ptr => refine one h ?_ rfl; obtain ⟨_, rfl⟩ := h; rfl
  | dptr => refine one h ?_ rfl; obtain ⟨_, _, rfl, _⟩ := h; rfl
  | nilp => refine one h ?_ rfl; simp [RepV] at h; subst h; rfl
  | fn => refine one h ?_ rfl; obtain ⟨_, rfl, _⟩ := h; rfl
  | nilfn => refine one h ?_ rfl; simp [RepV] at h; subst h; rfl
  | tup => refine one h ?_ rfl; obtain ⟨_, rfl, _⟩ := h; rfl
  | dead => exact absurd rfl hx
theorem repV_one {x : V} {v : Value} (h : RepV g w U x v) (hx : x.cellOk = true) : v.oneCell' = true := by
  cases x with
  | d x => exact repD_one h hx
  | nils => obtain ⟨a, rfl⟩ := h; rfl
  | own => obtain ⟨_, _, _, _, rfl⟩ := h; rfl
  | ptr => obtain ⟨_, rfl⟩ := h; rfl
  | dptr => obtain ⟨_, _, rfl, _⟩ := h; rfl
  | nilp => simp [RepV] at h; subst h; rfl
  | fn => obtain ⟨_, rfl, _⟩ := h; rfl
  | nilfn => simp [RepV] at h; subst h; rfl
  | fresh => simp [V.cellOk] at hx
  | fbox => simp [V.cellOk] at hx
  | agg => simp [V.cellOk] at hx
  | tup => simp [V.cellOk] at hx
  | dead => simp [V.cellOk] at hx
end

/-! ### the objects in memory -/
/-- The elements of an owned slice, as values: nothing yet, or a row of a block that nobody else knows. -/
def VecRep (g : G) (w : World) (t : Nat) (com : Bool) (e : TypeId) (sz len : Nat) (cs : List D) : Prop :=
  (cs.length = len * sz ∧ ∀ x ∈ cs, V.cellOk (.d x) = true) ∧ 0 < sz ∧
  ((∃ a, g.vt t = .slice a 0 0 ∧ len = 0) ∨
   ∃ cap cur us, g.vt t = .slice (some ⟨g.ph t, 0, none⟩) len cap ∧ 0 < cap ∧ w.heap[g.ph t]? = some (.cells cur e (0, 0)) ∧ len ≤ cap ∧ cap ≤ maxLen ∧ cur.size = cap * sz ∧
     cur.toList.take (len * sz) = us ∧ RepL g.fr w cs us ∧ (com = true → cs.length ≤ g.fr (g.ph t)) ∧ (com = false → g.fr (g.ph t) = 0) ∧ g.fr (g.ph t) ≤ cs.length)
def ObRep (g : G) (w : World) (U : Nat → Prop) (t : Nat) : Ob → Prop
  | .box cs => ∃ us e, w.heap[g.ph t]? = some (.cells us e (0, 0)) ∧ RepVs g w U cs us.toList ∧ g.fr (g.ph t) = 0
  | .cbox cs => (∀ x ∈ cs, V.cellOk (.d x) = true) ∧ ∃ us e, w.heap[g.ph t]? = some (.cells us e (0, 0)) ∧ RepL g.fr w cs us.toList ∧ cs.length ≤ g.fr (g.ph t)
  | .vec com e sz len cs => VecRep g w t com e sz len cs
/-- Does it lie in a block? -/
def Solid (g : G) (t : Nat) : Ob → Prop
  | .box _ => True
  | .cbox _ => True
  | .vec .. => ∃ len cap, g.vt t = .slice (some ⟨g.ph t, 0, none⟩) len cap ∧ 0 < cap

structure Inv (g : G) (w : World) (ob : Gt) (U : Nat → Prop) : Prop where
  rep : ∀ t o, ob t = some o → U t ∧ ObRep g w U t o
  apart : ∀ t o t' o', ob t = some o → ob t' = some o' → t ≠ t' → Solid g t o → Solid g t' o' → g.ph t ≠ g.ph t'

end Go.Vk
