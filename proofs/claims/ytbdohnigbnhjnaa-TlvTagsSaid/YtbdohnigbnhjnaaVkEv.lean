/- Each instruction's ideal outcome is what the machine does: all of them. -/
import Derived.Test.YtbdohnigbnhjnaaVkOps4
set_option linter.unusedSimpArgs false
set_option linter.unusedVariables false
set_option linter.unusedSectionVars false
namespace Go.Vk
section
variable {P : Program} {own : FuncId → List (Nat × TypeId × Nat)} {g : G} {w : World} {ob : Gt} {U : Nat → Prop} {id : Nat}

theorem isU8_spec {e : TypeId} (h : isU8 P e = true) : P.underlying e = some (.int .u8) := by
  unfold isU8 at h
  split at h
  · assumption
  · simp at h
theorem map_spec {α β : Type} {f : α → β} {o : Option α} {b : β} (h : o.map f = some b) : ∃ a, o = some a ∧ b = f a := by
  cases o with
  | none => simp at h
  | some a => simp at h; exact ⟨a, rfl, h.symm⟩
theorem compXo_spec {ρ : Operand → Value} {val : X → V} (hρ : ∀ x x', compX x = some x' → RepV g w U (val x') (ρ x)) {o : Option Operand} {o' : Option X} (h : compXo o = some o') :
    (∀ x, o'.map val = some x → ∃ u, o.map ρ = some u ∧ RepV g w U x u) ∧ (o'.map val = none → o.map ρ = none) := by
  cases o with
  | none => simp [compXo] at h; subst h; simp
  | some y =>
    simp only [compXo] at h
    obtain ⟨z, h1, rfl⟩ := map_spec h
    refine ⟨fun x hx => ?_, by simp⟩
    simp at hx; subst hx
    exact ⟨ρ y, rfl, hρ y z h1⟩
theorem compXs_spec {ρ : Operand → Value} {val : X → V} (hρ : ∀ x x', compX x = some x' → RepV g w U (val x') (ρ x)) : ∀ {xs : List Operand} {ys : List X}, compXs xs = some ys → RepVs g w U (ys.map val) (xs.map ρ)
  | [], _, h => by simp [compXs] at h; subst h; rfl
  | x :: r, _, h => by
    simp only [compXs] at h
    split at h
    · rename_i y ys h1 h2
      simp at h; subst h
      exact ⟨_, _, rfl, hρ x y h1, compXs_spec hρ h2⟩
    · simp at h
theorem fieldAt_spec {fs : Array Field} {f off n : Nat} (h : fieldAt P fs f = some (off, n)) : ∃ fd, fs[f]? = some fd ∧ tySize P fd.type = some n ∧ fd.offset = off := by
  unfold fieldAt at h
  split at h
  · rename_i fd hf
    obtain ⟨k, h1, h2⟩ := map_spec h
    simp at h2
    exact ⟨fd, hf, by rw [h1, h2.2], h2.1.symm⟩
  · simp at h

theorem good_ok {r : Result Next} {v : V} {u : Value} {s : Sem Value} (hI : Inv g w ob U) (hr : s.run P w = .ok u w) (hv : RepV g w U v u) (e : r = ((do pure (.value (← s))) : Sem Next).run P w) :
    Good r v g w ob U (updf [] ob) (fresh8 U id) := by
  rw [e]; exact good_val hI (run_v hr) hv

theorem allInfo {fs : List Field} (h : fs.all (fun f => (P.info? f.type).isSome) = true) : ∃ places, fs.mapM (fun f => (P.info? f.type).map fun i => (f.offset, i.size)) = some places ∧ ∀ (j : Nat) (f : Field), fs[j]? = some f → places[j]? = (tySize P f.type).map fun n => (f.offset, n) := by
  induction fs with
  | nil => exact ⟨[], rfl, by simp⟩
  | cons f r ih =>
    simp only [List.all_cons, Bool.and_eq_true] at h
    obtain ⟨ps, h1, h2⟩ := ih h.2
    obtain ⟨i, hi⟩ := Option.isSome_iff_exists.1 h.1
    refine ⟨(f.offset, i.size) :: ps, by simp [List.mapM_cons, hi, h1], fun j f' hf => ?_⟩
    cases j with
    | zero => simp at hf; subst hf; simp [tySize, hi]
    | succ j => simpa using h2 j f' (by simpa using hf)
theorem compParts_congr {p q : Nat → Option (Nat × Nat)} : ∀ {ps : List (Nat × Operand)} {qs : List (Nat × Nat × X)}, (∀ i x, p i = some x → q i = some x) → compParts p ps = some qs → compParts q ps = some qs
  | [], _, _, h => h
  | (i, x) :: r, _, hpq, h => by
    simp only [compParts] at h
    split at h
    · rename_i off n x' ps' h1 h2 h3
      simp at h; subst h
      simp only [compParts, hpq _ _ h1, h2, compParts_congr hpq h3]
    · simp at h

theorem roomB_le {b : Nat} (hb : 0 < b) (k : Nat) (h : k * b ≤ roomB) : k ≤ maxLen := by
  have : k ≤ k * b := Nat.le_mul_of_pos_right k hb
  unfold roomB at h
  unfold maxLen
  omega

theorem ev_sound {o : Oper} {io : IOp} (hc : compOp P own o.op = some io) {ρ : Operand → Value} {val : X → V} (hvc : ∀ v, val (.c v) = v) (hρ : ∀ x x', compX x = some x' → RepV g w U (val x') (ρ x)) (hI : Inv g w ob U) (hid : ¬ U id)
    {v : V} {u : Upd} (he : ev id val ob io = some (v, u)) : Good ((execOp ρ o).run P w) v g w ob U (updf u ob) (fresh8 U id) := by
  obtain ⟨dst, op, type, pos, after, guard⟩ := o
  cases op <;> simp only [compOp] at hc <;> try (simp at hc; done)
  case move x =>
    obtain ⟨x', h1, rfl⟩ := map_spec hc
    simp [ev] at he
    obtain ⟨rfl, rfl⟩ := he
    exact good_val hI rfl (hρ x x' h1)
  case assign x =>
    obtain ⟨x', h1, rfl⟩ := map_spec hc
    simp [ev] at he
    obtain ⟨rfl, rfl⟩ := he
    exact good_val hI rfl (hρ x x' h1)
  case pick c a b =>
    split at hc
    · rename_i c' a' b' h1 h2 h3
      simp at hc; subst hc
      simp only [ev] at he
      split at he
      · rename_i t ht
        simp at he
        obtain ⟨rfl, rfl⟩ := he
        have hcv := hρ c c' h1
        rw [ht] at hcv
        simp [RepV, RepD] at hcv
        refine good_val hI (u := if t then ρ a else ρ b) ?_ ?_
        · simp [execOp, hcv, asBool]
        · cases t
          · exact hρ b b' h3
          · exact hρ a a' h2
      · simp at he
    · simp at hc
  case alloc e =>
    split at hc
    · rename_i i hi
      split at hc
      · rename_i z hz
        obtain ⟨x, h1, rfl⟩ := map_spec hc
        simp only [ev] at he
        split at he
        · rename_i hok
          simp at he
          obtain ⟨rfl, rfl⟩ := he
          have hv : RepV g w U (val (.c x)) z := by rw [hvc]; exact repV_constV h1
          have := sound_box (P := P) (e := e) hI hid hv hok
          unfold Good at this ⊢
          obtain ⟨u, w', g', h2, h3⟩ := this
          refine ⟨u, w', g', ?_, h3⟩
          rw [← h2.resolve_right (by simp [Instr.box, newVar, newRow])] at *
          refine .inl ?_
          simp [execOp, Instr.alloc, Instr.box, zeroValue, typeInfo, hi, hz]
        · simp at he
      · simp at hc
    · simp at hc
  case box e x =>
    obtain ⟨x', h1, rfl⟩ := map_spec hc
    simp only [ev] at he
    split at he
    · rename_i hok
      simp at he
      obtain ⟨rfl, rfl⟩ := he
      exact sound_box hI hid (hρ x x' h1) hok
    · simp at he
  case build t parts =>
    split at hc
    · rename_i i fs hi hu
      split at hc
      · rename_i z hz
        split at hc
        · rename_i zs hzs
          split at hc
          · rename_i hall
            obtain ⟨ps, h1, rfl⟩ := map_spec hc
            simp only [ev] at he
            split at he
            · rename_i cs hcs
              simp at he
              obtain ⟨rfl, rfl⟩ := he
              obtain ⟨places, hp1, hp2⟩ := allInfo hall
              have hps : compParts (fun j => places.toArray[j]?) parts.toList = some ps := compParts_congr (fun j x hx => by
                unfold fieldAt at hx
                split at hx
                · rename_i f hf
                  simp only [List.getElem?_toArray]
                  rw [hp2 j f (by simpa using hf)]; exact hx
                · simp at hx) h1
              obtain ⟨r, h3, h4⟩ := place_sound (fun j => places.toArray[j]?) hρ parts.toList ps zs cs z.toList hps hcs (repVs_constCs hzs)
              refine good_val hI (run_v (run_build w t _ r.toArray ?_)) ⟨r, rfl, h4⟩
              simp only [Program.built, hi, hu, hz, hp1, Value.cells]
              simpa using h3
            · simp at he
          · simp at hc
        · simp at hc
      · simp at hc
    · rename_i i n e hi hu
      split at hc
      · rename_i z m hz hm
        split at hc
        · rename_i zs hzs
          obtain ⟨ps, h1, rfl⟩ := map_spec hc
          simp only [ev] at he
          split at he
          · rename_i cs hcs
            simp at he
            obtain ⟨rfl, rfl⟩ := he
            obtain ⟨r, h3, h4⟩ := place_sound (fun j => some (j * m, m)) hρ parts.toList ps zs cs z.toList h1 hcs (repVs_constCs hzs)
            obtain ⟨ie, hie, hme⟩ := map_spec hm
            refine good_val hI (run_v (run_build w t _ r.toArray ?_)) ⟨r, rfl, h4⟩
            simp only [Program.built, hi, hu, hz, hie, Value.cells]
            subst hme
            simpa using h3
          · simp at he
        · simp at hc
      · simp at hc
    · simp at hc
  case buildSlice t len parts =>
    split at hc
    · rename_i e i z ds hinfo
      split at hc
      · rename_i hsmall
        obtain ⟨ps, h1, rfl⟩ := map_spec hc
        simp only [ev] at he
        split at he
        · rename_i cs u' hcs
          split at he
          · rename_i hl
            simp at he
            obtain ⟨rfl, rfl⟩ := he
            exact sound_bsl hI hid hρ hinfo hsmall h1 hcs hl.1
          · simp at he
        · simp at he
      · simp at hc
    · simp at hc
  case load t x =>
    split at hc
    · rename_i n x' ht h1
      simp at hc; subst hc
      have hx := hρ x x' h1
      simp only [ev] at he
      split at he
      · rename_i b off hv
        rw [hv] at hx
        split at he
        · rename_i cs ho
          split at he
          · split at he
            · rename_i y hy
              simp at he
              obtain ⟨rfl, rfl⟩ := he
              exact sound_ld_ptr hI ht ho hx (.inl ⟨rfl, hy⟩)
            · simp at he
          · rename_i k
            split at he
            · rename_i hk
              simp at he
              obtain ⟨rfl, rfl⟩ := he
              exact sound_ld_ptr hI ht ho hx (.inr ⟨k, rfl, hk, rfl⟩)
            · simp at he
        · rename_i c e sz l cs ho
          split at he
          · split at he
            · rename_i y hy
              simp at he
              obtain ⟨rfl, rfl⟩ := he
              exact sound_ld_ptr hI ht ho hx (.inl ⟨rfl, by simp [Ob.cells, hy]⟩)
            · simp at he
          · rename_i k
            split at he
            · rename_i hk
              simp at he
              obtain ⟨rfl, rfl⟩ := he
              exact sound_ld_ptr hI ht ho hx (.inr ⟨k, rfl, by simpa [Ob.cells] using hk, by simp [Ob.cells, List.map_take, List.map_drop]⟩)
            · simp at he
        · rename_i cs ho
          split at he
          · split at he
            · rename_i y hy
              simp at he
              obtain ⟨rfl, rfl⟩ := he
              exact sound_ld_ptr hI ht ho hx (.inl ⟨rfl, by simp [Ob.cells, hy]⟩)
            · simp at he
          · rename_i k
            split at he
            · rename_i hk
              simp at he
              obtain ⟨rfl, rfl⟩ := he
              exact sound_ld_ptr hI ht ho hx (.inr ⟨k, rfl, by simpa [Ob.cells] using hk, by simp [Ob.cells, List.map_take, List.map_drop]⟩)
            · simp at he
        · simp at he
      · rename_i cs hv
        rw [hv] at hx
        split at he
        · split at he
          · rename_i c r
            simp at he
            obtain ⟨rfl, rfl⟩ := he
            exact sound_ld_dptr hI ht hx (.inl ⟨rfl, rfl⟩)
          · simp at he
        · rename_i k
          split at he
          · rename_i hk
            simp at he
            obtain ⟨rfl, rfl⟩ := he
            exact sound_ld_dptr hI ht hx (.inr ⟨k, rfl, by simpa using hk, by simp [List.map_take]⟩)
          · simp at he
      · simp at he
    · simp at hc
  case store t x y =>
    split at hc
    · rename_i n x' y' ht h1 h2
      simp at hc; subst hc
      have hx := hρ x x' h1
      have hy := hρ y y' h2
      simp only [ev] at he
      split at he
      · rename_i b off hv
        rw [hv] at hx
        split at he
        · rename_i cs ho
          split at he
          · rename_i hk
            simp at he
            obtain ⟨rfl, rfl⟩ := he
            exact sound_st_box hI ht ho hx hy hk.1 hk.2.1 hk.2.2
          · simp at he
        · rename_i e sz l cs ho
          split at he
          · rename_i new u' hn
            split at he
            · rename_i hk
              simp at he
              obtain ⟨rfl, rfl⟩ := he
              have hu' : u' = [] := by simpa using hk.2.2.2
              subst hu'
              exact sound_st_vec hI ht ho hx hy hn hk.1 hk.2.1 hk.2.2.1 (fun e => by rw [e] at hn; simp [V.cells, V.toDs, V.toD1] at hn)
            · simp at he
          · simp at he
        · simp at he
      · simp at he
    · simp at hc
  case nilCheck x =>
    obtain ⟨x', h1, rfl⟩ := map_spec hc
    have hx := hρ x x' h1
    simp only [ev] at he
    split at he
    · rename_i b off hv
      simp at he
      obtain ⟨rfl, rfl⟩ := he
      rw [hv] at hx
      have hx2 := hx
      obtain ⟨_, hr⟩ := hx2
      exact good_val hI (by simp [execOp, hr]) hx
    · rename_i cs hv
      simp at he
      obtain ⟨rfl, rfl⟩ := he
      rw [hv] at hx
      have hx2 := hx
      obtain ⟨b, off, hr, _⟩ := hx2
      exact good_val hI (by simp [execOp, hr]) hx
    · rename_i f caps hv
      simp at he
      obtain ⟨rfl, rfl⟩ := he
      rw [hv] at hx
      have hx2 := hx
      obtain ⟨us, hr, _⟩ := hx2
      exact good_val hI (by simp [execOp, hr]) hx
    · simp at he
  case binOp o t x y ty =>
    split at hc
    · rename_i x' y' h1 h2
      have hx := hρ x x' h1
      have hy := hρ y y' h2
      have hbin : ∀ {v u}, ev id val ob (.bin o x' y') = some (v, u) → Good ((execOp ρ ⟨dst, .binOp o t x y ty, type, pos, after, guard⟩).run P w) v g w ob U (updf u ob) (fresh8 U id) := by
        intro v u he
        simp only [ev] at he
        split at he
        · rename_i a b ha hb
          split at he
          · rename_i r hr
            simp at he
            obtain ⟨rfl, rfl⟩ := he
            rw [ha] at hx
            rw [hb] at hy
            obtain ⟨u, hu, hv⟩ := run_binD (P := P) (w := w) hr hx hy t x y
            exact good_val hI (run_v hu) hv
          · simp at he
        · simp at he
      have hag : ∀ {ad : TypeDesc}, P.underlying t = some ad → ((∃ fs, ad = .struct fs) ∨ ∃ n e, ad = .array n e) → (if P.eqGuardType P.depth t then none else match eqT P 8 t with
        | some ks => match o with
          | .eql => some (IOp.eq false ks x' y')
          | .neq => some (.eq true ks x' y')
          | _ => none
        | none => none) = some io → Good ((execOp ρ ⟨dst, .binOp o t x y ty, type, pos, after, guard⟩).run P w) v g w ob U (updf u ob) (fresh8 U id) := by
        intro ad hu hshape hc
        split at hc
        · simp at hc
        · rename_i hg
          have hg : P.eqGuardType P.depth t = false := by simpa using hg
          split at hc
          · rename_i ks hks
            have key : ∀ neg, io = .eq neg ks x' y' → (o = .eql ∧ neg = false ∨ o = .neq ∧ neg = true) → Good ((execOp ρ ⟨dst, .binOp o t x y ty, type, pos, after, guard⟩).run P w) v g w ob U (updf u ob) (fresh8 U id) := by
              intro neg hio ho
              subst hio
              simp only [ev] at he
              split at he
              · rename_i a b ha hb
                split at he
                · rename_i r hr
                  simp at he
                  obtain ⟨rfl, rfl⟩ := he
                  rw [ha] at hx
                  rw [hb] at hy
                  obtain ⟨us, hxu, hus⟩ := hx
                  obtain ⟨vs, hyv, hvs⟩ := hy
                  obtain ⟨nn, hag', hnn⟩ := eqT_agg hks
                  have e := eqRun (P := P) (w := w) 8 t ks a b us vs r 10000 (by omega) hks hus hvs hr
                  have hsome : ∃ m, tyAgg P t = some (some m) := by
                    rw [hag']
                    rcases hnn with ⟨rfl, _⟩ | rfl
                    · exact absurd hag' (eqT_notnone hks hu hshape)
                    · exact ⟨_, rfl⟩
                  obtain ⟨m, hm⟩ := hsome
                  simp only [pk, hm] at e
                  have e2 := run_eqGuard_agg (P := P) w o t x y us.toArray vs.toArray hg
                  rcases ho with ⟨rfl, rfl⟩ | ⟨rfl, rfl⟩
                  · refine good_val hI (run_v (u := .bool r) ?_) (by simp [RepV, RepD])
                    simp only [Sem.run_bind, hxu, hyv, e2, Result.andThen_ok, run_eql_struct, e]
                  · refine good_val hI (run_v (u := .bool (!r)) ?_) (by simp [RepV, RepD])
                    simp only [Sem.run_bind, hxu, hyv, e2, Result.andThen_ok, run_neq_struct, e]
                · simp at he
              · simp at he
            split at hc
            · simp at hc; exact key false hc.symm (.inl ⟨rfl, rfl⟩)
            · simp at hc; exact key true hc.symm (.inr ⟨rfl, rfl⟩)
            · simp at hc
          · simp at hc
      split at hc
      · simp at hc; subst hc; exact hbin he
      · simp at hc; subst hc; exact hbin he
      · rename_i hu
        have hb : ∀ neg, io = .eqb neg x' y' → (o = .eql ∧ neg = false ∨ o = .neq ∧ neg = true) → Good ((execOp ρ ⟨dst, .binOp o t x y ty, type, pos, after, guard⟩).run P w) v g w ob U (updf u ob) (fresh8 U id) := by
          intro neg hio ho
          subst hio
          simp only [ev] at he
          split at he
          · rename_i a b ha hb
            simp at he
            obtain ⟨rfl, rfl⟩ := he
            rw [ha] at hx
            rw [hb] at hy
            simp [RepV, RepD] at hx hy
            rcases ho with ⟨rfl, rfl⟩ | ⟨rfl, rfl⟩
            · refine good_val hI (run_v (u := .bool (a == b)) ?_) (by simp [RepV, RepD])
              rw [hx, hy]
              simp [eqGuard, binOp, Op.equal, Op.maxDepth, run_equalIn_bool' w _ t a b hu]
            · refine good_val hI (run_v (u := .bool (!(a == b))) ?_) (by simp [RepV, RepD])
              rw [hx, hy]
              simp [eqGuard, binOp, Op.equal, Op.maxDepth, run_equalIn_bool' w _ t a b hu]
          · simp at he
        split at hc
        · simp at hc; exact hb false hc.symm (.inl ⟨rfl, rfl⟩)
        · simp at hc; exact hb true hc.symm (.inr ⟨rfl, rfl⟩)
        · simp at hc
      · (repeat' split at hc) <;> first | (simp at hc; done) | (simp at hc; subst hc; simp [ev] at he)
      · rename_i hu; exact hag hu (.inl ⟨_, rfl⟩) hc
      · rename_i hu; exact hag hu (.inr ⟨_, _, rfl⟩) hc
      · simp at hc
    · simp at hc
  case unOp o t x =>
    obtain ⟨x', h1, rfl⟩ := map_spec hc
    have hx := hρ x x' h1
    simp only [ev] at he
    split at he
    · rename_i b hv
      simp at he
      obtain ⟨rfl, rfl⟩ := he
      rw [hv] at hx
      simp [RepV, RepD] at hx
      exact good_val hI (run_v (u := .bool !b) (by simp [hx, Op.unary])) (by simp [RepV, RepD])
    · rename_i k n hv
      simp at he
      obtain ⟨rfl, rfl⟩ := he
      rw [hv] at hx
      simp [RepV, RepD] at hx
      exact good_val hI (run_v (u := .int k (k.wrap (0 - n))) (by simp [hx, Op.unary, Op.intArith])) (by simp [RepV, RepD])
    · simp at he
  case convert src d x =>
    split at hc
    · rename_i x' h1
      have hx := hρ x x' h1
      split at hc
      · rename_i sd k hs hd
        simp at hc; subst hc
        simp only [ev] at he
        split at he
        · rename_i k' n hv
          simp at he
          obtain ⟨rfl, rfl⟩ := he
          rw [hv] at hx
          simp [RepV, RepD] at hx
          refine good_val hI (run_v (u := .int k (k.wrap n)) ?_) (by simp [RepV, RepD])
          simp [convert, run_underlying hs, run_underlying hd, hx, Conv.intToInt]
        · simp at he
      · rename_i hs hd
        simp at hc; subst hc
        simp only [ev] at he
        split at he
        · rename_i s hv
          simp at he
          obtain ⟨rfl, rfl⟩ := he
          rw [hv] at hx
          simp [RepV, RepD] at hx
          refine good_val hI (run_v (u := .string ⟨s.toArray⟩) ?_) (by simp [RepV, RepD])
          simp [convert, run_underlying hs, run_underlying hd, hx]
        · simp at he
      · rename_i e hs hd
        split at hc
        · rename_i h8
          simp at hc; subst hc
          simp only [ev] at he
          split at he
          · rename_i n cs hsl
            split at he
            · rename_i bs hb
              split at he
              · rename_i hl
                simp at he
                obtain ⟨rfl, rfl⟩ := he
                exact sound_b2s hI hs (isU8_spec h8) hd hx hsl hb hl
              · simp at he
            · simp at he
          · simp at he
        · simp at hc
      · rename_i e hs hd
        split at hc
        · rename_i h8
          simp at hc; subst hc
          simp only [ev] at he
          split at he
          · rename_i s hv
            simp at he
            obtain ⟨rfl, rfl⟩ := he
            rw [hv] at hx
            simp only [RepV, RepD] at hx
            exact sound_s2b hI hs hd (isU8_spec h8) hx
          · simp at he
        · simp at hc
      · simp at hc
    · simp at hc
  case makeInterface t x =>
    split at hc
    · rename_i x' h1
      have hx := hρ x x' h1
      split at hc
      · simp at hc
      · rename_i td hu hni
        simp at hc; subst hc
        have hrun : (Instr.makeInterface t (ρ x)).run P w = .ok (.iface t (ρ x)) w := by
          simp only [Instr.makeInterface, Sem.run_bind, run_underlying hni, Result.andThen_ok]
          cases td <;> first | exact absurd rfl (hu _) | rfl
        simp only [ev] at he
        split at he
        · rename_i cs hv
          split at he
          · rename_i ds u' hds
            simp at he
            obtain ⟨rfl, rfl⟩ := he
            rw [hv] at hx
            obtain ⟨us, hxu, hus⟩ := hx
            obtain ⟨_, g', hs, hr⟩ := toDs_sound hds hus hI
            exact ⟨_, w, g', .inl (run_v hrun), ⟨ρ x, rfl, us, hxu, hr⟩, hs.used' fresh8_mono⟩
          · simp at he
        · rename_i hna
          split at he
          · rename_i y u' hds
            simp at he
            obtain ⟨rfl, rfl⟩ := he
            obtain ⟨_, g', hs, hr⟩ := toD1_sound hds hx hI
            exact ⟨_, w, g', .inl (run_v hrun), ⟨ρ x, rfl, hr⟩, hs.used' fresh8_mono⟩
          · simp at he
      · simp at hc
    · simp at hc
  case typeAssert x xt t ok =>
    cases ok <;> simp only at hc <;> try (simp at hc; done)
    split at hc
    · rename_i x' h1
      have hx := hρ x x' h1
      split at hc
      · simp at hc
      · rename_i td i hni hu hi
        split at hc
        · rename_i z hz
          obtain ⟨zv, hzv, rfl⟩ := map_spec hc
          have hfail : ∀ (so dy : Option TypeId) (m : String), (do pure (Value.tuple #[← zeroValue t, .bool false]) : Sem Value).run P w = .ok (.tuple #[z, .bool false]) w := fun _ _ _ => by
            simp [zeroValue, typeInfo, hi, hz]
          have hzr : RepV g w U (.tup [zv, .d (.bool false)]) (.tuple #[z, .bool false]) := ⟨[z, .bool false], rfl, z, [.bool false], rfl, repV_constV hzv, .bool false, [], rfl, rfl, rfl⟩
          simp only [ev] at he
          split at he
          · rename_i hv
            simp at he
            obtain ⟨rfl, rfl⟩ := he
            rw [hv] at hx
            simp only [RepV, RepD] at hx
            refine good_val hI (run_v (u := .tuple #[z, .bool false]) ?_) hzr
            have := hfail none none ""
            simp only [Instr.typeAssert, hx, Sem.run_bind, run_underlying hu, Result.andThen_ok]
            cases td <;> first | exact absurd rfl (hni _) | (simp only [if_true]; exact this)
          · rename_i tt vv hv
            rw [hv] at hx
            obtain ⟨y, hxy, hy⟩ := hx
            by_cases ht : tt = t
            · subst ht
              simp only [if_true] at he
              have hrun : (Instr.typeAssert (ρ x) xt tt true).run P w = .ok (.tuple #[y, .bool true]) w := by
                simp only [Instr.typeAssert, hxy, Sem.run_bind, run_underlying hu, Result.andThen_ok]
                cases td <;> first | exact absurd rfl (hni _) | (simp only [if_true]; rfl)
              split at he
              · rename_i cs
                simp at he
                obtain ⟨rfl, rfl⟩ := he
                obtain ⟨us, rfl, hus⟩ := hy
                exact good_val hI (run_v hrun) ⟨[.agg us.toArray, .bool true], rfl, _, _, rfl, ⟨us, rfl, repVs_of_repL hus⟩, .bool true, [], rfl, rfl, rfl⟩
              · simp at he
                obtain ⟨rfl, rfl⟩ := he
                exact good_val hI (run_v hrun) ⟨[y, .bool true], rfl, _, _, rfl, hy, .bool true, [], rfl, rfl, rfl⟩
            · rw [if_neg ht] at he
              simp at he
              obtain ⟨rfl, rfl⟩ := he
              refine good_val hI (run_v (u := .tuple #[z, .bool false]) ?_) hzr
              have := hfail none none ""
              simp only [Instr.typeAssert, hxy, Sem.run_bind, run_underlying hu, Result.andThen_ok]
              cases td <;> first | exact absurd rfl (hni _) | (simp only [if_neg ht, if_true]; exact this)
          · simp at he
        · simp at hc
      · simp at hc
    · simp at hc
  case makeSlice t n c =>
    split at hc
    · rename_i e i z ds n' c' hinfo h1 h2
      split at hc
      · rename_i hby
        simp at hc; subst hc
        have hn := hρ n n' h1
        have hcc := hρ c c' h2
        simp only [ev] at he
        split at he
        · rename_i k l k' m hv hw
          split at he
          · rename_i hk
            simp at he
            obtain ⟨rfl, rfl⟩ := he
            rw [hv] at hn
            rw [hw] at hcc
            simp only [RepV, RepD] at hn hcc
            obtain ⟨h0, rfl, hb⟩ := hk
            obtain ⟨l, rfl⟩ : ∃ q : Nat, l = q := ⟨l.toNat, by omega⟩
            simp only [Int.toNat_natCast] at hb ⊢
            exact sound_mks hI hid hinfo hn hcc hb hby
          · simp at he
        · simp at he
      · simp at hc
    · simp at hc
  case makeFunc fn first caps =>
    cases fn <;> simp at hc
    rename_i f
    obtain ⟨hf, xs, h1, rfl⟩ := hc
    simp only [ev] at he
    simp at he
    obtain ⟨rfl, rfl⟩ := he
    refine good_val hI (run_v (u := .func (.func f) (first.map ρ) (caps.map ρ)) rfl) ⟨caps.toList.map ρ, ?_, by simpa [List.map_map] using compXs_spec hρ h1⟩
    subst hf
    have : caps.map ρ = (caps.toList.map ρ).toArray := by apply Array.ext'; simp
    rw [this]; simp
  case slice t x lo hi mx =>
    split at hc
    · rename_i x' lo' hi' mx' h1 h2 h3 h4
      have hx := hρ x x' h1
      have hlo := compXo_spec hρ h2
      have hhi := compXo_spec hρ h3
      have hmx := compXo_spec hρ h4
      split at hc
      · rename_i e hu
        split at hc
        · rename_i n hsz
          split at hc
          · simp at hc; subst hc
            simp only [ev] at he
            split at he
            · -- data
              rename_i len cs hv
              rw [hv] at hx
              obtain ⟨a, cap, hxe, ⟨hcap, hok⟩, hrep⟩ := hx
              split at he
              · split at he
                · rename_i h hh
                  split at he
                  · rename_i l hl
                    simp at he
                    obtain ⟨rfl, rfl⟩ := he
                    obtain ⟨r1, r2, r3⟩ := run_slice2 (P := P) (a := a) (len := len) (cap := cap) hu hsz hcap hh hl hlo.1 hlo.2 hhi.1 hhi.2
                    have hmx0 : mx.map ρ = none := hmx.2 rfl
                    exact good_val hI (run_v (by rw [hxe, hmx0]; exact r1)) (sub_rep r2 r3 hok hrep)
                  · simp at he
                · simp at he
              · rename_i m h0
                split at he
                · rename_i m' hm
                  split at he
                  · rename_i h hh
                    split at he
                    · rename_i l hl
                      obtain ⟨um, hum, hvm⟩ := hmx.1 (val m) rfl
                      obtain ⟨uh, huh, hvh⟩ := hhi.1 (val h0) rfl
                      obtain ⟨r1, r2, r3, r4⟩ := run_slice3 (P := P) (a := a) (len := len) (cap := cap) hu hsz hcap hm hh hl hlo.1 hlo.2 hvh hvm
                      have hrun : (Instr.sliceAt t (ρ x) (lo.map ρ) (hi.map ρ) (mx.map ρ)).run P w = .ok (.slice (if m' = l then a else a.map (·.add (l * n))) (h - l) (m' - l)) w := by rw [hxe, huh, hum]; exact r1
                      split at he
                      · rename_i hml
                        simp at he
                        obtain ⟨rfl, rfl⟩ := he
                        refine good_val hI (run_v hrun) ⟨a, ?_⟩
                        rw [if_pos hml, show h - l = 0 by omega, show m' - l = 0 by omega]
                      · simp at he
                        obtain ⟨rfl, rfl⟩ := he
                        exact good_val hI (run_v hrun) (sub_rep r2 r3 hok hrep)
                    · simp at he
                  · simp at he
                · simp at he
              · simp at he
            · -- an owned one: committed
              rename_i tt len hv
              rw [hv] at hx
              obtain ⟨hUt, hxt, a0, c0, hxe⟩ := hx
              split at he
              · rename_i com e' sz' l0 cs ho
                have hcomm : sz' = n ∧ l0 = len → ∃ g1, Step g w ob U g1 w (updf [(tt, some (.vec true e' sz' l0 cs))] ob) U ∧ RepD g1.fr w (.slice len cs) (ρ x) := by
                  rintro ⟨rfl, rfl⟩
                  obtain ⟨g1, s1, _, _, s2⟩ := Step.commit hI ho
                  exact ⟨g1, s1, s2 _ ⟨a0, c0, hxe⟩ hxt⟩
                split at he
                · split at he
                  · rename_i h hh
                    split at he
                    · rename_i l hl
                      split at he
                      · rename_i hq
                        simp at he
                        obtain ⟨rfl, rfl⟩ := he
                        obtain ⟨g1, s1, a, cap, hxe', ⟨hcap, hok⟩, hrep⟩ := hcomm hq
                        have hmono : ∀ {o : Option V} {uo : Option Value}, (∀ y, o = some y → ∃ u, uo = some u ∧ RepV g w U y u) → ∀ y, o = some y → ∃ u, uo = some u ∧ RepV g1 w U y u := fun h y hy => by
                          obtain ⟨u, a1, a2⟩ := h y hy; exact ⟨u, a1, RepV.mono s1.le _ _ a2⟩
                        obtain ⟨r1, r2, r3⟩ := run_slice2 (P := P) (a := a) (len := len) (cap := cap) hu hsz hcap hh hl (hmono hlo.1) hlo.2 (hmono hhi.1) hhi.2
                        have hmx0 : mx.map ρ = none := hmx.2 rfl
                        have s2 : Step g1 w (updf [(tt, some (Ob.vec true e' sz' l0 cs))] ob) U g1 w (updf [(tt, some (Ob.vec true e' sz' l0 cs))] ob) (fresh8 U id) := .same s1.inv (.inl rfl) fresh8_mono fun _ _ h => h
                        exact ⟨_, w, g1, .inl (run_v (by rw [hxe', hmx0]; exact r1)), RepD.mono (.refl _ _) _ _ (sub_rep r2 r3 hok hrep), s1.trans s2⟩
                      · simp at he
                    · simp at he
                  · simp at he
                · rename_i m h0
                  split at he
                  · rename_i m' hm
                    split at he
                    · rename_i h hh
                      split at he
                      · rename_i l hl
                        split at he
                        · rename_i hq
                          obtain ⟨g1, s1, a, cap, hxe', ⟨hcap, hok⟩, hrep⟩ := hcomm hq
                          have hmono : ∀ {o : Option V} {uo : Option Value}, (∀ y, o = some y → ∃ u, uo = some u ∧ RepV g w U y u) → ∀ y, o = some y → ∃ u, uo = some u ∧ RepV g1 w U y u := fun h y hy => by
                            obtain ⟨u, a1, a2⟩ := h y hy; exact ⟨u, a1, RepV.mono s1.le _ _ a2⟩
                          obtain ⟨um, hum, hvm⟩ := hmono hmx.1 (val m) rfl
                          obtain ⟨uh, huh, hvh⟩ := hmono hhi.1 (val h0) rfl
                          obtain ⟨r1, r2, r3, r4⟩ := run_slice3 (P := P) (a := a) (len := len) (cap := cap) hu hsz hcap hm hh hl (hmono hlo.1) hlo.2 hvh hvm
                          have hrun : (Instr.sliceAt t (ρ x) (lo.map ρ) (hi.map ρ) (mx.map ρ)).run P w = .ok (.slice (if m' = l then a else a.map (·.add (l * n))) (h - l) (m' - l)) w := by rw [hxe', huh, hum]; exact r1
                          split at he
                          · rename_i hml
                            simp at he
                            obtain ⟨rfl, rfl⟩ := he
                            refine good_val hI (run_v hrun) ⟨a, ?_⟩
                            rw [if_pos hml, show h - l = 0 by omega, show m' - l = 0 by omega]
                          · simp at he
                            obtain ⟨rfl, rfl⟩ := he
                            have s2 : Step g1 w (updf [(tt, some (Ob.vec true e' sz' l0 cs))] ob) U g1 w (updf [(tt, some (Ob.vec true e' sz' l0 cs))] ob) (fresh8 U id) := .same s1.inv (.inl rfl) fresh8_mono fun _ _ h => h
                            exact ⟨_, w, g1, .inl (run_v hrun), RepD.mono (.refl _ _) _ _ (sub_rep r2 r3 hok hrep), s1.trans s2⟩
                        · simp at he
                      · simp at he
                    · simp at he
                  · simp at he
                · simp at he
              · simp at he
            · -- an empty one
              rename_i hv
              rw [hv] at hx
              obtain ⟨a, hxe⟩ := hx
              have key : ∀ (ul uh um : Option Value), ((ul = none ∧ uh = none ∧ um = none) ∨ (∃ h, uh = some h ∧ (Instr.sliceBound h 0 .sliceAcap).run P w = .ok 0 w ∧ (Instr.sliceBound h 0 .slice3B).run P w = .ok 0 w ∧ (∀ y, ul = some y → (Instr.sliceBound y 0 .sliceB).run P w = .ok 0 w ∧ (Instr.sliceBound y 0 .slice3C).run P w = .ok 0 w) ∧ (∀ y, um = some y → (Instr.sliceBound y 0 .slice3Acap).run P w = .ok 0 w))) →
                  (Instr.sliceAt t (.slice a 0 0) ul uh um).run P w = .ok (.slice a 0 0) w := by
                intro ul uh um h
                rcases h with ⟨rfl, rfl, rfl⟩ | ⟨h, rfl, b1, b2, b3, b4⟩
                · simp [Instr.sliceAt, Instr.slice, run_underlying hu, Instr.sliceBounds, run_sizeOf' hsz]
                · cases ul with
                  | none => cases um with
                    | none => simp [Instr.sliceAt, Instr.slice, run_underlying hu, Instr.sliceBounds, run_sizeOf' hsz, b1]
                    | some m => simp [Instr.sliceAt, Instr.slice, run_underlying hu, Instr.sliceBounds, run_sizeOf' hsz, b2, b4 m rfl]
                  | some y =>
                    have c := b3 y rfl
                    cases um with
                    | none => simp [Instr.sliceAt, Instr.slice, run_underlying hu, Instr.sliceBounds, run_sizeOf' hsz, b1, c.1]
                    | some m => simp [Instr.sliceAt, Instr.slice, run_underlying hu, Instr.sliceBounds, run_sizeOf' hsz, b2, c.2, b4 m rfl]
              have zero : ∀ {y : V} {u : Value} {k : Nat}, bound y 0 = some k → RepV g w U y u → ∀ code, (Instr.sliceBound u 0 code).run P w = .ok 0 w := fun hb hy code => by
                have := bound_sound (P := P) hb hy code
                have h0 := this.2
                rw [Nat.le_zero.1 h0] at this
                exact this.1
              split at he
              · rename_i e1 e2 e3
                simp at he
                obtain ⟨rfl, rfl⟩ := he
                refine good_val hI (run_v ?_) ⟨a, rfl⟩
                rw [hxe]
                exact key _ _ _ (.inl ⟨hlo.2 e1, hhi.2 e2, hmx.2 e3⟩)
              · rename_i k e2
                split at he
                · rename_i b1 hb1
                  split at he
                  · rename_i b2 hb2
                    simp at he
                    obtain ⟨rfl, rfl⟩ := he
                    refine good_val hI (run_v ?_) ⟨a, rfl⟩
                    rw [hxe]
                    obtain ⟨uh, huh, hvh⟩ := hhi.1 _ e2
                    refine key _ _ _ (.inr ⟨uh, huh, zero (y := .d (.int k 0)) (k := 0) (by simp [bound]) hvh _, zero (y := .d (.int k 0)) (k := 0) (by simp [bound]) hvh _, fun y hy => ?_, fun y hy => ?_⟩)
                    · cases hl' : lo'.map val with
                      | none => rw [hlo.2 hl'] at hy; cases hy
                      | some z =>
                        rw [hl'] at hb1
                        obtain ⟨uy, huy, hvy⟩ := hlo.1 z hl'
                        rw [huy] at hy; cases hy
                        exact ⟨zero hb1 hvy _, zero hb1 hvy _⟩
                    · cases hl' : mx'.map val with
                      | none => rw [hmx.2 hl'] at hy; cases hy
                      | some z =>
                        rw [hl'] at hb2
                        obtain ⟨uy, huy, hvy⟩ := hmx.1 z hl'
                        rw [huy] at hy; cases hy
                        exact zero hb2 hvy _
                  · simp at he
                · simp at he
              · simp at he
            · simp at he
          · simp at hc
        · simp at hc
      · rename_i hu
        split at hc
        · simp at hc; subst hc
          simp only [ev] at he
          split at he
          · rename_i s hv
            rw [hv] at hx
            simp [RepV, RepD] at hx
            split at he
            · rename_i h hh
              split at he
              · rename_i l hl
                simp at he
                obtain ⟨rfl, rfl⟩ := he
                have hmx0 : mx.map ρ = none := hmx.2 rfl
                have hsz : (ByteArray.mk s.toArray).size = s.length := by simp [ByteArray.size]
                have b1 := boundO_sound (P := P) hh hhi.1 hhi.2 .sliceAlen (Nat.le_refl _)
                have b2 := boundO_sound (P := P) hl hlo.1 hlo.2 .sliceB (Nat.zero_le _)
                have hb : (Instr.sliceBounds false s.length s.length (lo.map ρ) (hi.map ρ) none).run P w = .ok (l, h, s.length) w := by
                  unfold Instr.sliceBounds
                  have e1 := b1.1
                  have e2 := b2.1
                  generalize lo.map ρ = ulo at *
                  generalize hi.map ρ = uhi at *
                  cases uhi with
                  | none =>
                    have h1 : s.length = h := by simpa [optBound] using e1
                    subst h1
                    cases ulo with
                    | none => have h2 : 0 = l := by simpa [optBound] using e2
                              subst h2; simp
                    | some x => simp only [optBound] at e2; simp [e2]
                  | some y =>
                    simp only [optBound] at e1
                    cases ulo with
                    | none => have h2 : 0 = l := by simpa [optBound] using e2
                              subst h2; simp [e1]
                    | some x => simp only [optBound] at e2; simp [e1, e2]
                refine good_val hI (run_v (u := .string ⟨((s.drop l).take (h - l)).toArray⟩) ?_) (by simp [RepV, RepD])
                rw [hmx0]
                simp only [Instr.sliceAt, Instr.slice, Sem.run_bind, run_underlying hu, Result.andThen_ok, hx, hsz, hb, Sem.run_pure]
                simp only [Option.isSome_none, Bool.false_eq_true, if_false, Sem.run_bind, Sem.run_pure, Result.andThen_ok, hb]
                congr 2
                apply ByteArray.ext
                simp
              · simp at he
            · simp at he
          · simp at he
        · simp at hc
      · simp at hc
    · simp at hc
  case fieldAddr s x f =>
    split at hc
    · rename_i fs x' hu h1
      have hx := hρ x x' h1
      split at hc
      · rename_i off n hf
        split at hc
        · rename_i hn
          simp at hc; subst hc
          obtain ⟨fd, hfd, hsz, hoff⟩ := fieldAt_spec hf
          have hrun : ∀ b o, (Instr.fieldAt s (.pointer (some ⟨b, o, none⟩)) f).run P w = .ok (.pointer (some ⟨b, o + off, none⟩)) w := fun b o => by
            simp [Instr.fieldAt, run_underlying hu, hfd, Instr.sureAddr, fieldPlace, run_sizeOf' hsz, show ¬ n = 0 by omega, addr_add, hoff]
          simp only [ev] at he
          split at he
          · rename_i b o hv
            simp at he
            obtain ⟨rfl, rfl⟩ := he
            rw [hv] at hx
            obtain ⟨hU, hr⟩ := hx
            exact good_val hI (run_v (by rw [hr]; exact hrun _ _)) ⟨hU, rfl⟩
          · rename_i cs hv
            split at he
            · rename_i hl
              simp at he
              obtain ⟨rfl, rfl⟩ := he
              rw [hv] at hx
              obtain ⟨b, o, hr, hrep⟩ := hx
              exact good_val hI (run_v (by rw [hr]; exact hrun _ _)) ⟨b, o + off, rfl, repAt_drop off hrep hl⟩
            · simp at he
          · simp at he
        · simp at hc
      · simp at hc
    · simp at hc
  case field s x f =>
    split at hc
    · rename_i fs x' hu h1
      have hx := hρ x x' h1
      split at hc
      · rename_i fd hfd
        split at hc
        · rename_i n ht
          simp at hc; subst hc
          simp only [ev] at he
          split at he
          · rename_i cs hv
            rw [hv] at hx
            obtain ⟨us, hr, hrs⟩ := hx
            obtain ⟨p1, p2⟩ := run_part (w := w) (cs := us) (off := fd.offset) ht
            split at he
            · split at he
              · rename_i y hy
                simp at he
                obtain ⟨rfl, rfl⟩ := he
                obtain ⟨z, hz1, hz2⟩ := repVs_get _ hrs hy
                refine good_val hI (run_v (u := z) ?_) hz2
                simp [Instr.field, run_underlying hu, hfd, hr, asAgg, p1 rfl z hz1]
              · simp at he
            · rename_i k
              split at he
              · simp at he
                obtain ⟨rfl, rfl⟩ := he
                refine good_val hI (run_v (u := .agg ((us.drop fd.offset).take k).toArray) ?_) ⟨_, rfl, repVs_take k (repVs_drop _ hrs)⟩
                simp only [Instr.field, Sem.run_bind, run_underlying hu, Result.andThen_ok, hfd, hr, asAgg, Sem.run_pure]
                exact p2 k rfl
              · simp at he
          · simp at he
        · simp at hc
      · simp at hc
    · simp at hc
  case indexAddr t x i =>
    split at hc
    · rename_i x' i' h1 h2
      have hx := hρ x x' h1
      have hi := hρ i i' h2
      split at hc
      · rename_i e hu
        split at hc
        · rename_i n hsz
          split at hc
          · rename_i hn
            simp at hc; subst hc
            have hel : P.underlying t = some (.slice (P.elem t)) := by simp [Program.elem, hu]
            have hrun : ∀ (b o len cap : Nat) (k : IntKind) (j : Int), 0 ≤ j → j < (len : Int) → (Instr.indexAt t (.slice (some ⟨b, o, none⟩) len cap) (.int k j)).run P w = .ok (.pointer (some ⟨b, o + j.toNat * n, none⟩)) w := fun b o len cap k j hj1 hj2 => by
              simp [Instr.indexAt, run_underlying hu, asIntOf, hj1, hj2, run_sizeOf' hsz, addr_add]
            simp only [ev] at he
            split at he
            · rename_i len cs k j hv hw
              split at he
              · rename_i hj
                simp at he
                obtain ⟨rfl, rfl⟩ := he
                rw [hv] at hx
                rw [hw] at hi
                simp [RepV, RepD] at hi
                obtain ⟨a, cap, hr, _, hrep⟩ := hx
                rcases hrep with rfl | ⟨b, o, rfl, hrep⟩
                · simp at hj
                · exact good_val hI (run_v (by rw [hr, hi]; exact hrun b o len cap k j hj.1 hj.2.1)) ⟨b, _, rfl, repAt_drop _ hrep (by omega)⟩
              · simp at he
            · rename_i tt len k j hv hw
              split at he
              · rename_i c e' sz' l cs ho
                split at he
                · rename_i hj
                  simp at he
                  obtain ⟨rfl, rfl⟩ := he
                  rw [hv] at hx
                  rw [hw] at hi
                  simp [RepV, RepD] at hi
                  obtain ⟨hU, hxt, _⟩ := hx
                  obtain ⟨_, _, _, hcap⟩ := vec_cells (hI.rep tt _ ho).2
                  obtain ⟨_, _, q3⟩ := (hI.rep tt _ ho).2
                  rcases q3 with ⟨a, q3, q4⟩ | ⟨cap, cur, us, a1, _⟩
                  · omega
                  · refine good_val hI (run_v (by rw [hxt, a1, hi, hj.2.2.1]; exact hrun (g.ph tt) 0 len cap k j hj.1 hj.2.1)) ⟨hU, by simp⟩
                · simp at he
              · simp at he
            · simp at he
          · simp at hc
        · simp at hc
      · rename_i len e hu
        split at hc
        · rename_i n hsz
          split at hc
          · rename_i hn
            simp at hc; subst hc
            simp only [ev] at he
            split at he
            · rename_i b o k j hv hw
              split at he
              · rename_i hj
                simp at he
                obtain ⟨rfl, rfl⟩ := he
                rw [hv] at hx
                rw [hw] at hi
                simp [RepV, RepD] at hi
                obtain ⟨hU, hr⟩ := hx
                refine good_val hI (run_v (u := .pointer (some ⟨g.ph b, o + j.toNat * n, none⟩)) ?_) ⟨hU, rfl⟩
                simp [Instr.indexAt, run_underlying hu, asIntOf, hi, hr, Instr.sureAddr, hj.1, hj.2, run_sizeOf' hsz, addr_add]
              · simp at he
            · rename_i cs k j hv hw
              split at he
              · rename_i hj
                simp at he
                obtain ⟨rfl, rfl⟩ := he
                rw [hv] at hx
                rw [hw] at hi
                simp [RepV, RepD] at hi
                obtain ⟨b, o, hr, hrep⟩ := hx
                refine good_val hI (run_v (u := .pointer (some ⟨b, o + j.toNat * n, none⟩)) ?_) ⟨b, _, rfl, repAt_drop _ hrep hj.2.2⟩
                simp [Instr.indexAt, run_underlying hu, asIntOf, hi, hr, Instr.sureAddr, hj.1, hj.2.1, run_sizeOf' hsz, addr_add]
              · simp at he
            · simp at he
          · simp at hc
        · simp at hc
      · simp at hc
    · simp at hc
  case index t x i =>
    split at hc
    · rename_i x' i' h1 h2
      have hx := hρ x x' h1
      have hi := hρ i i' h2
      split at hc
      · rename_i len e hu
        split at hc
        · rename_i n k hsz ht
          simp at hc; subst hc
          simp only [ev] at he
          split at he
          · rename_i cs kk j hv hw
            split at he
            · rename_i hj
              rw [hv] at hx
              rw [hw] at hi
              simp [RepV, RepD] at hi
              obtain ⟨us, hr, hrs⟩ := hx
              obtain ⟨p1, p2⟩ := run_part (w := w) (cs := us) (off := j.toNat * n) ht
              split at he
              · split at he
                · rename_i y hy
                  simp at he
                  obtain ⟨rfl, rfl⟩ := he
                  obtain ⟨z, hz1, hz2⟩ := repVs_get _ hrs hy
                  refine good_val hI (run_v (u := z) ?_) hz2
                  simp [Instr.index, run_underlying hu, asIntOf, hi, hr, hj.1, hj.2, run_sizeOf' hsz, p1 rfl z hz1]
                · simp at he
              · rename_i m
                split at he
                · simp at he
                  obtain ⟨rfl, rfl⟩ := he
                  refine good_val hI (run_v (u := .agg ((us.drop (j.toNat * n)).take m).toArray) ?_) ⟨_, rfl, repVs_take m (repVs_drop _ hrs)⟩
                  have := p2 m rfl
                  simp only [Instr.index, Sem.run_bind, run_underlying hu, Result.andThen_ok, asIntOf, hi, hr, Sem.run_pure, if_pos hj, run_sizeOf' hsz]
                  exact this
                · simp at he
            · simp at he
          · simp at he
        · simp at hc
      · rename_i hu
        simp at hc; subst hc
        simp only [ev] at he
        split at he
        · rename_i s k j hv hw
          split at he
          · rename_i hj
            split at he
            · rename_i b hb
              simp at he
              obtain ⟨rfl, rfl⟩ := he
              rw [hv] at hx
              rw [hw] at hi
              simp [RepV, RepD] at hi hx
              refine good_val hI (run_v (u := .int .u8 b.toNat) ?_) (by simp [RepV, RepD])
              have hg : (ByteArray.mk s.toArray)[j.toNat]? = some b := by
                have hlt : j.toNat < s.length := by
                  rcases Nat.lt_or_ge j.toNat s.length with h | h
                  · exact h
                  · rw [List.getElem?_eq_none h] at hb; cases hb
                have hsz : j.toNat < (ByteArray.mk s.toArray).size := by simpa [ByteArray.size] using hlt
                rw [getElem?_pos (ByteArray.mk s.toArray) j.toNat hsz]
                rw [List.getElem?_eq_getElem hlt] at hb
                simpa [ByteArray.getElem_eq_getElem_data] using hb
              simp [Instr.index, run_underlying hu, asIntOf, hi, hx, hj, hg]
            · simp at he
          · simp at he
        · simp at he
      · simp at hc
    · simp at hc
  case extract x i =>
    obtain ⟨x', h1, rfl⟩ := map_spec hc
    have hx := hρ x x' h1
    simp only [ev] at he
    split at he
    · rename_i vs hv
      split at he
      · rename_i y hy
        simp at he
        obtain ⟨rfl, rfl⟩ := he
        rw [hv] at hx
        obtain ⟨us, hr, hrs⟩ := hx
        obtain ⟨z, hz1, hz2⟩ := repVs_get _ hrs hy
        exact good_val hI (run_v (u := z) (by simp [Instr.extract, hr, hz1])) hz2
      · simp at he
    · simp at he
  case call c =>
    obtain ⟨callee, args, argTypes⟩ := c
    simp only [compCall] at hc
    split at hc
    · simp at hc
    · rename_i xs hxs
      have hargs := compXs_spec hρ hxs
      split at hc
      · simp at hc; subst hc; simp [ev] at he
      · obtain ⟨x', _, rfl⟩ := map_spec hc; simp [ev] at he
      · obtain ⟨x', _, rfl⟩ := map_spec hc; simp [ev] at he
      · -- len
        split at hc
        · rename_i x' t hat
          have hat' : argTypes = #[t] := by simpa using congrArg List.toArray hat
          have hx1 : ∃ a, args = #[a] ∧ RepV g w U (val x') (ρ a) := by
            obtain ⟨u, s, e1, e2, e3⟩ := hargs
            simp [RepVs] at e3; subst e3
            have : args.toList.length = 1 := by simpa using congrArg List.length e1
            obtain ⟨l⟩ := args
            cases l with
            | nil => simp at e1
            | cons a r =>
              simp at e1
              obtain ⟨rfl, rfl⟩ := e1
              exact ⟨a, rfl, e2⟩
          obtain ⟨a, rfl, hx⟩ := hx1
          subst hat'
          have hexec : ∀ {u : Value}, (Builtin.len_ #[t] type #[ρ a]).run P w = .ok u w → (execOp ρ ⟨dst, .call ⟨.builtin .len, #[a], #[t]⟩, type, pos, after, guard⟩).run P w = .ok (.value u) w := fun h => by
            simp [execOp, resolve, invoke, builtin, h]
          split at hc
          · rename_i el hu
            simp at hc; subst hc
            simp only [ev] at he
            split at he
            · rename_i n cs hv
              simp at he
              obtain ⟨rfl, rfl⟩ := he
              rw [hv] at hx
              obtain ⟨b, cap, hr, _⟩ := hx
              exact good_val hI (hexec (u := .int .i64 n) (by simp [Builtin.len_, hr, run_underlying hu, goInt])) (by simp [RepV, RepD])
            · rename_i tt n hv
              simp at he
              obtain ⟨rfl, rfl⟩ := he
              rw [hv] at hx
              obtain ⟨_, _, b, cap, hr⟩ := hx
              exact good_val hI (hexec (u := .int .i64 n) (by simp [Builtin.len_, hr, run_underlying hu, goInt])) (by simp [RepV, RepD])
            · rename_i hv
              simp at he
              obtain ⟨rfl, rfl⟩ := he
              rw [hv] at hx
              obtain ⟨b, hr⟩ := hx
              exact good_val hI (hexec (u := .int .i64 0) (by simp [Builtin.len_, hr, run_underlying hu, goInt])) (by simp [RepV, RepD])
            · simp at he
          · rename_i hu
            simp at hc; subst hc
            simp only [ev] at he
            split at he
            · rename_i s hv
              rw [hv] at hx
              simp at he
              obtain ⟨rfl, rfl⟩ := he
              simp [RepV, RepD] at hx
              have hsz : (ByteArray.mk s.toArray).size = s.length := by simp [ByteArray.size]
              refine good_val hI (hexec (u := .int .i64 s.length) ?_) (by simp [RepV, RepD])
              rw [hx]
              simp only [Builtin.len_]
              simp [run_underlying hu, goInt, hsz]
            · simp at he
          · simp at hc
        · simp at hc
      · -- min
        split at hc
        · rename_i x' y'
          simp at hc; subst hc
          obtain ⟨ux, s1, e1, hx, uy, s2, rfl, hy, hn⟩ := hargs
          simp [RepVs] at hn; subst hn
          simp only [ev, List.map_cons, List.map_nil] at he
          split at he
          · rename_i v' hm
            simp at he
            obtain ⟨rfl, rfl⟩ := he
            unfold minInts at hm
            split at hm
            · rename_i k a k' b heq
              simp only [List.cons.injEq, and_true] at heq
              obtain ⟨ha, hb⟩ := heq
              simp at hm; subst hm
              rw [ha] at hx
              rw [hb] at hy
              simp [RepV, RepD] at hx hy
              have hargs' : args.toList.map ρ = [.int k a, .int k' b] := by rw [e1, hx, hy]
              refine good_val hI (u := .int k (if b < a then b else a)) ?_ (by simp [RepV, RepD])
              simp [execOp, resolve, invoke, builtin, Builtin.min_, hargs', Builtin.min2]
            · simp at hm
          · simp at he
        · simp at hc
      · -- max
        split at hc
        · rename_i x' y'
          simp at hc; subst hc
          obtain ⟨ux, s1, e1, hx, uy, s2, rfl, hy, hn⟩ := hargs
          simp [RepVs] at hn; subst hn
          simp only [ev, List.map_cons, List.map_nil] at he
          split at he
          · rename_i v' hm
            simp at he
            obtain ⟨rfl, rfl⟩ := he
            unfold maxInts at hm
            split at hm
            · rename_i k a k' b heq
              simp only [List.cons.injEq, and_true] at heq
              obtain ⟨ha, hb⟩ := heq
              simp at hm; subst hm
              rw [ha] at hx
              rw [hb] at hy
              simp [RepV, RepD] at hx hy
              have hargs' : args.toList.map ρ = [.int k a, .int k' b] := by rw [e1, hx, hy]
              refine good_val hI (u := .int k (if b > a then b else a)) ?_ (by simp [RepV, RepD])
              simp [execOp, resolve, invoke, builtin, Builtin.max_, hargs', Builtin.max2]
            · simp at hm
          · simp at he
        · simp at hc
      · -- append
        split at hc
        · rename_i x' y' t t' hat
          have hat' : argTypes = #[t, t'] := by simpa using congrArg List.toArray hat
          obtain ⟨ux, s1, e1, hx, uy, s2, rfl, hy, hn⟩ := hargs
          simp [RepVs] at hn; subst hn
          split at hc
          · rename_i e i z ds hinfo
            split at hc
            · rename_i hq
              obtain ⟨rfl, hb⟩ := hq
              simp at hc; subst hc
              have hargs' : args.map ρ = #[ux, uy] := by
                apply Array.ext'
                rw [Array.toList_map, e1]
              have hexec : (execOp ρ ⟨dst, .call ⟨.builtin .append, args, argTypes⟩, type, pos, after, guard⟩) = ((do pure (.value (← Builtin.append_ #[t', t'] type #[ux, uy]))) : Sem Next) := by
                simp only [execOp, resolve, hargs', hat']
                rfl
              rw [hexec]
              simp only [ev] at he
              split at he
              · rename_i m new hsl
                split at he
                · rename_i hl
                  split at he
                  · rename_i hv
                    rw [hv] at hx
                    split at he
                    · rename_i hr
                      simp at he
                      obtain ⟨rfl, rfl⟩ := he
                      exact sound_app hI hid hx hy hinfo hsl hl.1 (.inl ⟨rfl, hr, rfl, rfl⟩) (roomB_le hb)
                    · simp at he
                  · rename_i tt n hv
                    rw [hv] at hx
                    split at he
                    · rename_i com e' sz' l cs ho
                      split at he
                      · rename_i hr
                        obtain ⟨rfl, rfl, rfl, hr⟩ := hr
                        simp at he
                        obtain ⟨rfl, rfl⟩ := he
                        exact sound_app hI hid hx hy hinfo hsl hl.1 (.inr ⟨tt, l, com, cs, rfl, ho, hr, rfl, rfl⟩) (roomB_le hb)
                      · simp at he
                    · simp at he
                  · simp at he
                · simp at he
              · simp at he
            · simp at hc
          · simp at hc
        · simp at hc
      · simp at hc
  case panic x =>
    obtain ⟨x', _, rfl⟩ := map_spec hc
    simp [ev] at he
end
end Go.Vk
