/- Each instruction's ideal outcome is what the machine does: numbers, strings, slices, pointers. -/
import Derived.Test.YtbdohnigbnhjnaaVkOps2
import Derived.Laws.StructEq
import Derived.Laws.Concat
set_option linter.unusedSimpArgs false
set_option linter.unusedVariables false
set_option linter.unusedSectionVars false
namespace Go.Vk
section
variable {P : Program} {g : G} {w : World} {ob : Gt} {U : Nat → Prop} {id : Nat}

theorem run_intBin {o : BinOp} {k : IntKind} {a b : Int} {r : D} (h : intBin o k a b = some r) (hs : isShift o = false) (t : TypeId) :
    ∃ u, (binOp o t (.int k a) (.int k b)).run P w = .ok u w ∧ RepD g.fr w r u := by
  cases o <;> simp [intBin, isShift] at h hs <;> (try subst h) <;>
    simp [binOp, Op.intArith, Op.intBits, Op.intCmp, RepD]
  case quo => obtain ⟨h0, rfl⟩ := h; simp [Op.intDiv, h0, RepD]
  case rem => obtain ⟨h0, rfl⟩ := h; simp [Op.intDiv, h0, RepD]
theorem run_intShift {o : BinOp} {k k' : IntKind} {a b : Int} {r : D} (h : intShift o k a b = some r) (t : TypeId) :
    ∃ u, (binOp o t (.int k a) (.int k' b)).run P w = .ok u w ∧ RepD g.fr w r u := by
  unfold intShift at h
  split at h
  · simp at h
  · rename_i hb
    cases o <;> simp at h <;> subst h <;> simp [binOp, Op.shift, hb, RepD]
theorem mk_toList (s : List UInt8) : (ByteArray.mk s.toArray).data.toList = s := by simp
theorem beq_mk (s t : List UInt8) : ((ByteArray.mk s.toArray).toList == (ByteArray.mk t.toArray).toList) = (s == t) := by
  rw [ByteArray.toList_mk, ByteArray.toList_mk]
theorem run_strBin {o : BinOp} {a b : List UInt8} {r : D} (h : strBin o a b = some r) (t : TypeId) :
    ∃ u, (binOp o t (.string ⟨a.toArray⟩) (.string ⟨b.toArray⟩)).run P w = .ok u w ∧ RepD g.fr w r u := by
  cases o <;> simp [strBin] at h
  case add =>
    obtain ⟨h1, rfl⟩ := h
    have hs : ¬ (((ByteArray.mk a.toArray).size + (ByteArray.mk b.toArray).size : Nat) : Int) > IntKind.i64.max := by
      have e1 : (ByteArray.mk a.toArray).size = a.length := by simp [ByteArray.size]
      have e2 : (ByteArray.mk b.toArray).size = b.length := by simp [ByteArray.size]
      have e3 : IntKind.i64.max = 9223372036854775807 := by decide
      rw [e1, e2, e3]; omega
    refine ⟨.string ⟨(a ++ b).toArray⟩, ?_, by simp [RepD]⟩
    simp only [binOp, Op.stringOp]
    rw [if_neg hs, ByteArray.mk_append_mk]
    rfl
  case eql => subst h; exact ⟨_, by simp [binOp, Op.stringOp, beq_mk]; rfl, by simp [RepD]⟩
  case neq => subst h; exact ⟨.bool (!(a == b)), by simp [binOp, Op.stringOp, beq_mk], by simp [RepD]⟩
theorem run_binD {o : BinOp} {x y r : D} {vx vy : Value} (h : binD o x y = some r) (hx : RepD g.fr w x vx) (hy : RepD g.fr w y vy) (t : TypeId) (X Y : Operand) :
    ∃ u, ((do eqGuard o t X Y vx vy; binOp o t vx vy) : Sem Value).run P w = .ok u w ∧ RepD g.fr w r u := by
  have hgI : ∀ k a k' b, (eqGuard o t X Y (.int k a) (.int k' b)).run P w = .ok () w := by intros; cases o <;> rfl
  have hgS : ∀ a b, (eqGuard o t X Y (.string a) (.string b)).run P w = .ok () w := by intros; cases o <;> rfl
  unfold binD at h
  split at h
  · rename_i k a k' b
    simp [RepD] at hx hy
    subst hx hy
    rw [Sem.run_bind, hgI]
    simp only [Result.andThen_ok]
    split at h
    · exact run_intShift h t
    · rename_i hs
      split at h
      · rename_i hk; subst hk; exact run_intBin h (by simpa using hs) t
      · simp at h
  · simp [RepD] at hx hy
    subst hx hy
    rw [Sem.run_bind, hgS]
    simp only [Result.andThen_ok]
    exact run_strBin h t
  · simp at h

/-! ### slicing -/
theorem bound_sound {v : V} {cap n : Nat} {u : Value} (h : bound v cap = some n) (hv : RepV g w U v u) (code : BoundsCode) : (Instr.sliceBound u cap code).run P w = .ok n w ∧ n ≤ cap := by
  unfold bound at h
  split at h
  · rename_i k i
    split at h
    · rename_i hc
      simp at h; subst h
      simp [RepV, RepD] at hv; subst hv
      refine ⟨?_, by omega⟩
      simp [Instr.sliceBound, asIntOf, hc]
    · simp at h
  · simp at h
/-- What slicing a slice leaves: its value, the data. -/
theorem sub_rep {a : Option Addr} {l h m sz : Nat} {cs : List D} (h1 : l ≤ h) (hm : h ≤ m) (hok : ∀ x ∈ cs, V.cellOk (.d x) = true)
    (hr : cs = [] ∨ ∃ b off, a = some ⟨b, off, none⟩ ∧ RepAt g.fr w cs b off) :
    RepD g.fr w (.slice (h - l) ((cs.drop (l * sz)).take ((h - l) * sz))) (.slice (if m = l then a else a.map (·.add (l * sz))) (h - l) (m - l)) := by
  refine ⟨_, _, rfl, ⟨by omega, fun x hx => hok x (List.mem_of_mem_drop (List.mem_of_mem_take hx))⟩, ?_⟩
  by_cases hml : m = l
  · have : h - l = 0 := by omega
    rw [this]
    exact .inl (by simp)
  · rw [if_neg hml]
    rcases hr with rfl | ⟨b, off, rfl, hr⟩
    · exact .inl (by simp)
    · by_cases hd : l * sz ≤ cs.length
      · exact .inr ⟨b, off + l * sz, by simp [addr_add], repAt_take _ (repAt_drop _ hr hd)⟩
      · exact .inl (by rw [List.drop_of_length_le (by omega)]; simp)

def optBound (ux : Option Value) (dflt cap : Nat) (code : BoundsCode) : Sem Nat :=
  match ux with
  | some u => Instr.sliceBound u cap code
  | none => pure dflt
theorem boundO_sound {v : Option V} {ux : Option Value} {dflt cap n : Nat} (h : boundO v dflt cap = some n) (hv : ∀ x, v = some x → ∃ u, ux = some u ∧ RepV g w U x u) (hn : v = none → ux = none) (code : BoundsCode) (hd : dflt ≤ cap) :
    (optBound ux dflt cap code).run P w = .ok n w ∧ n ≤ cap := by
  unfold boundO at h
  split at h
  · rename_i x
    obtain ⟨u, rfl, hu⟩ := hv x rfl
    exact bound_sound h hu code
  · rw [hn rfl]
    simp at h; subst h
    exact ⟨rfl, hd⟩

/-- Slicing without a third index, within the length. -/
theorem run_slice2 {t e : TypeId} {n : Nat} {a : Option Addr} {len cap h l : Nat} {lo hi : Option V} {ulo uhi : Option Value} (ht : P.underlying t = some (.slice e)) (hsz : tySize P e = some n) (hc : len ≤ cap)
    (hh : boundO hi len len = some h) (hl : boundO lo 0 h = some l) (hlo : ∀ x, lo = some x → ∃ u, ulo = some u ∧ RepV g w U x u) (hlo' : lo = none → ulo = none)
    (hhi : ∀ x, hi = some x → ∃ u, uhi = some u ∧ RepV g w U x u) (hhi' : hi = none → uhi = none) :
    (Instr.sliceAt t (.slice a len cap) ulo uhi none).run P w = .ok (.slice (if cap = l then a else a.map (·.add (l * n))) (h - l) (cap - l)) w ∧ l ≤ h ∧ h ≤ cap := by
  have bh : (optBound uhi len cap .sliceAcap).run P w = .ok h w ∧ h ≤ len := by
    unfold boundO at hh
    split at hh
    · rename_i x
      obtain ⟨u, rfl, hu⟩ := hhi x rfl
      have := (bound_sound (P := P) hh hu .sliceAcap).2
      refine ⟨?_, this⟩
      unfold optBound
      unfold bound at hh
      split at hh
      · rename_i k i
        split at hh
        · rename_i hcc
          simp at hh; subst hh
          simp [RepV, RepD] at hu; subst hu
          simp [Instr.sliceBound, asIntOf, show (0 ≤ i ∧ i ≤ (cap : Int)) by omega]
        · simp at hh
      · simp at hh
    · rw [hhi' rfl]
      simp at hh; subst hh
      exact ⟨rfl, Nat.le_refl _⟩
  have bl := boundO_sound (P := P) hl hlo hlo' .sliceB (Nat.zero_le _)
  refine ⟨?_, bl.2, by omega⟩
  have e1 := bh.1
  have e2 := bl.1
  have hg : ∀ (a b : Nat) (s1 s2 : Sem Nat), s1.run P w = .ok a w → s2.run P w = .ok b w → ((do let h ← s1; let l ← s2; pure (l, h, cap)) : Sem (Nat × Nat × Nat)).run P w = .ok (b, a, cap) w := by
    intro a b s1 s2 h1 h2
    simp [Sem.run_bind, h1, h2]
  have hb : (Instr.sliceBounds true len cap ulo uhi none).run P w = .ok (l, h, cap) w := by
    unfold Instr.sliceBounds
    cases uhi with
    | none =>
      have h1 : len = h := by simpa [optBound] using e1
      subst h1
      cases ulo with
      | none => have h2 : 0 = l := by simpa [optBound] using e2
                subst h2; simp
      | some x => simp only [optBound] at e2; simp [e2]
    | some y =>
      simp only [optBound] at e1
      cases ulo with
      | none => have h2 : 0 = l := by simpa [optBound] using e2
                subst h2; simp [e1]
      | some x => simp only [optBound] at e2; simp [e1, e2]
  simp [Instr.sliceAt, Instr.slice, run_underlying ht, hb, run_sizeOf' hsz]
theorem run_slice3 {t e : TypeId} {n : Nat} {a : Option Addr} {len cap h l m : Nat} {lo : Option V} {ulo : Option Value} {vh vm : V} {uh um : Value} (ht : P.underlying t = some (.slice e)) (hsz : tySize P e = some n) (hc : len ≤ cap)
    (hm : bound vm len = some m) (hh : bound vh m = some h) (hl : boundO lo 0 h = some l) (hlo : ∀ x, lo = some x → ∃ u, ulo = some u ∧ RepV g w U x u) (hlo' : lo = none → ulo = none)
    (hvh : RepV g w U vh uh) (hvm : RepV g w U vm um) :
    (Instr.sliceAt t (.slice a len cap) ulo (some uh) (some um)).run P w = .ok (.slice (if m = l then a else a.map (·.add (l * n))) (h - l) (m - l)) w ∧ l ≤ h ∧ h ≤ m ∧ m ≤ len := by
  have e3 : (Instr.sliceBound um cap .slice3Acap).run P w = .ok m w ∧ m ≤ len := by
    unfold bound at hm
    split at hm
    · rename_i k i
      split at hm
      · rename_i hcc
        simp at hm; subst hm
        simp [RepV, RepD] at hvm; subst hvm
        simp [Instr.sliceBound, asIntOf, show (0 ≤ i ∧ i ≤ (cap : Int)) by omega]
        omega
      · simp at hm
    · simp at hm
  have e1 := bound_sound (P := P) hh hvh .slice3B
  have bl := boundO_sound (P := P) hl hlo hlo' .slice3C (Nat.zero_le _)
  refine ⟨?_, bl.2, e1.2, e3.2⟩
  have e2 := bl.1
  have hb : (Instr.sliceBounds true len cap ulo (some uh) (some um)).run P w = .ok (l, h, m) w := by
    unfold Instr.sliceBounds
    cases ulo with
    | none => have h2 : 0 = l := by simpa [optBound] using e2
              subst h2; simp [e1.1, e3.1]
    | some x => simp only [optBound] at e2; simp [e1.1, e2, e3.1]
  simp [Instr.sliceAt, Instr.slice, run_underlying ht, hb, run_sizeOf' hsz]

/-! ### bytes and strings -/
theorem bytesOf_spec : ∀ {cs : List D} {bs : List UInt8}, bytesOf cs = some bs → ∃ ns : List Int, cs = ns.map (D.int .u8) ∧ bs = ns.map fun n => UInt8.ofNat n.toNat
  | [], _, h => by simp [bytesOf] at h; subst h; exact ⟨[], rfl, rfl⟩
  | c :: r, _, h => by
    unfold bytesOf at h
    split at h
    · rename_i heq; cases heq
    · rename_i n r' heq
      simp only [List.cons.injEq] at heq
      obtain ⟨rfl, rfl⟩ := heq
      split at h
      · rename_i bs hb
        simp at h; subst h
        obtain ⟨ns, rfl, rfl⟩ := bytesOf_spec hb
        exact ⟨n :: ns, rfl, rfl⟩
      · simp at h
    · simp at h
theorem repL_ints : ∀ {ns : List Int} {us : List Value} {fr : Nat → Nat}, RepL fr w (ns.map (D.int .u8)) us → us = ns.map (Value.int .u8)
  | [], _, _, h => h
  | n :: r, _, _, h => by
    obtain ⟨u, s, rfl, h2, h3⟩ := h
    simp [RepD] at h2
    rw [h2, repL_ints h3]; rfl
theorem foldl_push : ∀ (ns : List Int) (r : ByteArray), ns.foldl (fun r n => r.push (UInt8.ofNat n.toNat)) r = ⟨r.data ++ (ns.map fun n => UInt8.ofNat n.toNat).toArray⟩
  | [], r => by simp
  | n :: ns, r => by
    simp only [List.foldl_cons, List.map_cons]
    rw [foldl_push ns]
    simp [ByteArray.push]
theorem sound_b2s {src dst e : TypeId} {v : V} {u : Value} {n : Nat} {cs : List D} {bs : List UInt8} (hI : Inv g w ob U) (hs : P.underlying src = some (.slice e)) (he : P.underlying e = some (.int .u8)) (hd : P.underlying dst = some .string)
    (hv : RepV g w U v u) (h1 : v.sliceOf ob = some (n, cs)) (h2 : bytesOf cs = some bs) (h3 : bs.length = n) :
    Good (((do pure (.value (← convert src dst u))) : Sem Next).run P w) (.d (.str bs)) g w ob U ob (fresh8 U id) := by
  obtain ⟨a, cap, us, rfl, _, r2, r3⟩ := sliceOf_sound h1 hv hI
  obtain ⟨ns, rfl, rfl⟩ := bytesOf_spec h2
  have hus := repL_ints r2
  subst hus
  have hn : ns.length = n := by simpa using h3
  refine good_val hI (run_v (u := .string ⟨(ns.map fun n => UInt8.ofNat n.toNat).toArray⟩) ?_) (by simp [RepV, RepD])
  have hcv : (convert src dst (.slice a n cap)).run P w = (Conv.bytesToString (.slice a n cap)).run P w := by
    simp [convert, run_underlying hs, run_underlying hd, run_underlying he]
  rw [hcv]
  have hfin : (ns.foldl (fun r n => r.push (UInt8.ofNat n.toNat)) ByteArray.empty) = ⟨(ns.map fun n => UInt8.ofNat n.toNat).toArray⟩ := by
    rw [foldl_push]
    congr 1
    exact Array.empty_append
  rcases r3 with r3 | ⟨b, off, rfl, r4⟩
  · have : ns = [] := by simpa using r3
    subst this
    simp at hn; subst hn
    cases a with
    | none => simp [Conv.bytesToString]; rfl
    | some a =>
      have h0 := run_bytesToString (P := P) w a 0 cap [] (by simp [loadCells, loadCellsFrom])
      rw [hfin] at h0
      exact h0
  · have hl := run_loadCells_list (P := P) w ⟨b, off, none⟩ (ns.map (Value.int .u8)) (fun j v hj => by rw [addr_add]; exact r4 j v hj)
    rw [List.length_map, hn] at hl
    rw [run_bytesToString w ⟨b, off, none⟩ n cap ns hl, hfin]
end
end Go.Vk
