/- The walk over ideal states is sound: instructions one after the other. -/
import Derived.Test.YtbdohnigbnhjnaaVkCall
set_option linter.unusedSimpArgs false
set_option linter.unusedVariables false
set_option linter.unusedSectionVars false
namespace Go.Vk

structure Sim (g : G) (w : World) (n : Nat) (a : Act) (get : Nat → V) (ob : Gt) (U : Nat → Prop) : Prop where
  defers : a.defers = []
  size : a.tmps.size = n
  slot : ∀ s, RepV g w U (get s) (a.tmps.getD s undef)
  inv : Inv g w ob U

def below (n : Nat) : Nat → Prop := fun t => t < n
theorem fresh8_below (n : Nat) : ∀ t, fresh8 (below n) n t → below (n + 8) t := fun t h => by
  simp only [fresh8, below] at h ⊢
  omega
theorem not_below (n : Nat) : ∀ k, n ≤ k → ¬ below n k := fun k h h' => by simp only [below] at h'; omega

section
variable {P : Program} {C : Con} {own : FuncId → List (Nat × TypeId × Nat)} {n : Nat}

theorem get_put (st : St) (d : Option Nat) (v : V) (u : Upd) (s : Nat) : (st.step d v u).get s = if d = some s then v else st.get s := by
  unfold St.step St.get
  cases d with
  | none => simp
  | some d =>
    by_cases h : d = s
    · subst h; simp [aget]
    · have : ¬ some d = some s := fun e => h (by cases e; rfl)
      simp [aget, h, this]
theorem obf_step (st : St) (d : Option Nat) (v : V) (u : Upd) : (st.step d v u).obf = updf u st.obf := by
  unfold St.step St.obf
  exact aget_upd u st.ob
theorem getD_put {a : Act} {d : Option Tmp} {v : Value} (h : ∀ k, d = some k → k < a.tmps.size) (s : Nat) : (a.put d v).tmps.getD s undef = if d = some s then v else a.tmps.getD s undef := by
  cases d with
  | none => simp [Act.put]
  | some d =>
    have hd := h d rfl
    by_cases e : d = s
    · subst e; simp [Act.put, Array.getD, hd]
    · simp [Act.put, Array.getD, e]
      by_cases hs : s < a.tmps.size
      · simp [hs, Array.getElem_setIfInBounds, e]
      · simp [hs]

theorem Sim.rho {g : G} {w : World} {a : Act} {st : St} {U : Nat → Prop} (h : Sim g w n a st.get st.obf U) : ∀ x x', compX x = some x' → RepV g w U (st.val x') (a.eval x) := by
  intro x x' hx
  cases x with
  | tmp t => simp [compX] at hx; subst hx; exact h.slot t
  | const v =>
    obtain ⟨y, h1, rfl⟩ := map_spec hx
    exact repV_constV h1
  | global g => simp [compX] at hx
  | func f => simp [compX] at hx; subst hx; exact ⟨[], rfl, rfl⟩

/-- The state behind an instruction. -/
theorem Sim.next {g g' : G} {w w' : World} {a : Act} {st : St} {d : Option Nat} {v : V} {x : Value} {u : Upd} {U U' : Nat → Prop} (h : Sim g w n a st.get st.obf U) (hd : ∀ k, d = some k → k < n) (hs : Step g w st.obf U g' w' (updf u st.obf) U')
    (hv : RepV g' w' U' v x) : Sim g' w' n (a.put d x) (st.step d v u).get (st.step d v u).obf U' where
  defers := by cases d <;> exact h.defers
  size := by cases d <;> simp [Act.put, h.size]
  slot := fun s => by
    rw [getD_put (fun k hk => by rw [h.size]; exact hd k hk), get_put]
    split
    · exact hv
    · exact RepV.mono hs.le _ _ (h.slot s)
  inv := by rw [obf_step]; exact hs.inv

theorem run_callFunc {f : FuncId} {args : Array Value} {w : World} (h : callOk P f = true) : (callFunc f args).run P w = .ok (.enter f args) w := by
  unfold callOk at h
  split at h
  · rename_i fn hf
    simp only [Bool.and_eq_true, Bool.not_eq_true'] at h
    obtain ⟨h1, h2⟩ := h
    obtain ⟨c, hc⟩ := Option.isSome_iff_exists.1 h1
    have h3 : ¬ fn.name = "runtime.NumGoroutine" := by simpa using h2
    simp [callFunc, hf, h3, hc]
  · simp at h

theorem Step.used {g g' : G} {w w' : World} {ob ob' : Gt} {U U' U2 : Nat → Prop} (h : Step g w ob U g' w' ob' U') (hu : ∀ t, U' t → U2 t) : Step g w ob U g' w' ob' U2 :=
  h.trans (.same h.inv (.inl rfl) hu fun _ _ h => h)

theorem comp_call {op : Op} {f : FuncId} {ow : List (Nat × TypeId × Nat)} {xs : List X} (h : compOp P own op = some (.call f ow xs)) :
    ∃ args argTypes, op = .call ⟨.value (.func f), args, argTypes⟩ ∧ compXs args.toList = some xs := by
  cases op
  case call c =>
    obtain ⟨callee, args, argTypes⟩ := c
    simp only [compOp, compCall] at h
    split at h
    · simp at h
    · rename_i ys hy
      split at h
      · simp at h
        obtain ⟨rfl, _, rfl⟩ := h
        exact ⟨args, argTypes, rfl, hy⟩
      all_goals ((repeat' split at h) <;> simp [Option.map_eq_some_iff] at h)
  all_goals (simp only [compOp] at h; (repeat' split at h) <;> first | (simp [Option.map_eq_some_iff] at h; done) | (rename_i heq _; cases heq; done) | (rename_i heq; cases heq; done))
theorem comp_callv {op : Op} {x : X} {xs : List X} (h : compOp P own op = some (.callv x xs)) :
    ∃ y args argTypes, op = .call ⟨.value y, args, argTypes⟩ ∧ compX y = some x ∧ compXs args.toList = some xs := by
  cases op
  case call c =>
    obtain ⟨callee, args, argTypes⟩ := c
    simp only [compOp, compCall] at h
    split at h
    · simp at h
    · rename_i ys hy
      split at h
      · simp at h
      · rename_i y _
        obtain ⟨z, h1, h2⟩ := map_spec h
        simp at h2
        obtain ⟨rfl, rfl⟩ := h2
        exact ⟨y, args, argTypes, rfl, h1, hy⟩
      all_goals ((repeat' split at h) <;> simp [Option.map_eq_some_iff] at h)
  all_goals (simp only [compOp] at h; (repeat' split at h) <;> first | (simp [Option.map_eq_some_iff] at h; done) | (rename_i heq _; cases heq; done) | (rename_i heq; cases heq; done))
theorem comp_inv {op : Op} {x : X} {ms : List (Nat × FuncId)} {xs : List X} (h : compOp P own op = some (.inv x ms xs)) :
    ∃ y m args argTypes, op = .call ⟨.invoke y m, args, argTypes⟩ ∧ compX y = some x ∧ ms = resolveMs P m ((own 1000000).map (·.1)) ∧ compXs args.toList = some xs := by
  cases op
  case call c =>
    obtain ⟨callee, args, argTypes⟩ := c
    simp only [compOp, compCall] at h
    split at h
    · simp at h
    · rename_i ys hy
      split at h
      · simp at h
      · simp [Option.map_eq_some_iff] at h
      · rename_i y m
        obtain ⟨z, h1, h2⟩ := map_spec h
        simp at h2
        obtain ⟨rfl, rfl, rfl⟩ := h2
        exact ⟨y, m, args, argTypes, rfl, h1, rfl, hy⟩
      all_goals ((repeat' split at h) <;> simp [Option.map_eq_some_iff] at h)
  all_goals (simp only [compOp] at h; (repeat' split at h) <;> first | (simp [Option.map_eq_some_iff] at h; done) | (rename_i heq _; cases heq; done) | (rename_i heq; cases heq; done))
theorem resolveMs_spec {m : String} {t : TypeId} {f : FuncId} : ∀ {ts : List TypeId}, aget t (resolveMs P m ts) = some f → resolveM P t m = some f
  | [], h => by simp [resolveMs, aget] at h
  | s :: r, h => by
    simp only [resolveMs] at h
    split at h
    · rename_i f' hf
      simp only [aget] at h
      split at h
      · rename_i e; subst e; simp at h; subst h; exact hf
      · exact resolveMs_spec h
    · exact resolveMs_spec h
theorem ifV_rep {g : G} {w : World} {U : Nat → Prop} {y : D} {u : Value} (h : RepD g.fr w y u) : RepV g w U (ifV y) u := by
  cases y <;> try exact h
  case agg cs =>
    obtain ⟨us, rfl, h2⟩ := h
    exact ⟨us, rfl, repVs_of_repL h2⟩
theorem run_inv {a : Act} {w : World} {z : Operand} {m : String} {args : Array Operand} {argTypes : Array TypeId} {t : TypeId} {yv : Value} {f : FuncId} {dst : Option Tmp} {type : TypeId} {pos : String} {after : Array Edge} {guard : Option (Nat × Bool)}
    (hz : a.eval z = .iface t yv) (hf : resolveM P t m = some f) (hok : callOk P f = true) :
    (execOp a.eval ⟨dst, .call ⟨.invoke z m, args, argTypes⟩, type, pos, after, guard⟩).run P w = .ok (.enter f (yv :: args.toList.map a.eval).toArray) w := by
  unfold resolveM at hf
  split at hf
  · rename_i i hi
    split at hf
    · rename_i me hme
      split at hf
      · rename_i f' hp hfn
        split at hf
        · simp at hf
        · rename_i td hnp hu
          simp at hf; subst hf
          have hpath : me.path.toList = [] := hp
          have h1 : (typeInfo t).run P w = .ok i w := by simp [typeInfo, hi]
          have h2 : (follow me.path.toList t (.val yv)).run P w = .ok (t, .val yv) w := by rw [hpath]; rfl
          have h3 : ∀ nm, (receiverAt t (.val yv) false nm).run P w = .ok yv w := fun nm => by
            simp only [receiverAt, Sem.run_bind, run_underlying hu, Result.andThen_ok]
            cases td <;> first | (exact absurd rfl (hnp _)) | rfl
          have hm : ∀ n, (method (n + 1) t yv m).run P w = .ok (f', yv) w := fun n => by
            unfold method
            simp only [Sem.run_bind, h1, Result.andThen_ok, hme, h2, hfn, h3, Sem.run_pure]
          have hcf := run_callFunc (w := w) (args := #[yv] ++ (args.map a.eval)) hok
          simp only [execOp, resolve, Sem.run_bind, Sem.run_pure, Result.andThen_ok, invoke, hz]
          have e2 : (#[Value.iface t yv] ++ args.map a.eval)[0]? = some (.iface t yv) := by rw [Array.getElem?_append_left (by simp)]; rfl
          have e3 : (#[Value.iface t yv] ++ args.map a.eval).extract 1 (#[Value.iface t yv] ++ args.map a.eval).size = args.map a.eval := by
            apply Array.ext'; simp [List.take_of_length_le]
          have e4 : P.types.size + Made.depth = (P.types.size + 99) + 1 := rfl
          simp only [e2, e3, callMethod, Sem.run_bind, run_program, Result.andThen_ok, e4, hm, hcf]
          congr 2
          apply Array.ext'; simp
        · simp at hf
      · simp at hf
    · simp at hf
  · simp at hf
theorem comp_panic {op : Op} {x : X} (h : compOp P own op = some (.panic x)) : ∃ y, op = .panic y ∧ compX y = some x := by
  cases op
  case call c =>
    obtain ⟨callee, args, argTypes⟩ := c
    simp only [compOp, compCall] at h
    (repeat' split at h) <;> simp [Option.map_eq_some_iff] at h
  case panic y =>
    simp only [compOp] at h
    obtain ⟨z, h1, h2⟩ := map_spec h
    simp at h2; subst h2
    exact ⟨y, rfl, h1⟩
  all_goals (simp only [compOp] at h; (repeat' split at h) <;> first | (simp [Option.map_eq_some_iff] at h; done) | (rename_i heq _; cases heq; done) | (rename_i heq; cases heq; done))

theorem equal_nil (w : World) (d : Nat) (t e : TypeId) (a : Option Addr) (l c : Nat) (h : P.underlying t = some (.slice e)) :
    (Op.equalIn (d + 1) t (.slice a l c) (.slice none 0 0)).run P w = .ok a.isNone w := by
  cases a <;> simp [Op.equalIn, run_underlying h]

theorem comp_isnil {op : Op} {neg : Bool} {x : X} (h : compOp P own op = some (.isnil neg x)) :
    ∃ o t y z ty e, op = .binOp o t y z ty ∧ compX y = some x ∧ P.underlying t = some (.slice e) ∧ compX z = some (.c .nils) ∧ (o = .eql ∧ neg = false ∨ o = .neq ∧ neg = true) := by
  cases op
  case call c =>
    obtain ⟨callee, args, argTypes⟩ := c
    simp only [compOp, compCall] at h
    (repeat' split at h) <;> simp [Option.map_eq_some_iff] at h
  case binOp o t y z ty =>
    simp only [compOp] at h
    split at h
    · rename_i x' y' h1 h2
      split at h
      · simp at h
      · simp at h
      · split at h <;> simp at h
      · rename_i e hu
        split at h
        · rename_i hn
          have hy' : y' = .c .nils := by
            unfold isNils at hn
            split at hn
            · rfl
            · cases hn
          subst hy'
          split at h
          · simp at h; obtain ⟨rfl, rfl⟩ := h; exact ⟨_, t, y, z, ty, e, rfl, h1, hu, h2, .inl ⟨rfl, rfl⟩⟩
          · simp at h; obtain ⟨rfl, rfl⟩ := h; exact ⟨_, t, y, z, ty, e, rfl, h1, hu, h2, .inr ⟨rfl, rfl⟩⟩
          · simp at h
        · simp at h
      · (repeat' split at h) <;> simp at h
      · (repeat' split at h) <;> simp at h
      · simp at h
    · simp at h
  all_goals (simp only [compOp] at h; (repeat' split at h) <;> first | (simp [Option.map_eq_some_iff] at h; done) | (rename_i heq _; cases heq; done) | (rename_i heq; cases heq; done))

/-- One instruction. -/
theorem W1_sound (hC : ∀ f args out, C f args out → TC P f args out) {ops : Array Oper} {bef : Nat} {o : Oper} {io : OpI} (hio : compOper P own ops bef o = some io) (hd : ∀ k, o.dst = some k → k < n)
    {K : St → Prop} {E : D → St → Prop} {st : St} {g : G} {w : World} {a : Act} (hs : Sim g w n a st.get st.obf (below st.nx)) (hW : W1 C st io K E) {K' : Act → World → Prop} {Q : Exit → Act → World → Prop}
    (hK : ∀ st' g' w' a', K st' → Sim g' w' n a' st'.get st'.obf (below st'.nx) → Step g w st.obf (below st.nx) g' w' st'.obf (below st'.nx) → K' a' w')
    (hE : ∀ t x v, E (.iface t x) st → RepD g.fr w (.iface t x) v → Q (.panic [{ v, recovered := false }]) a w) : o.wp P a w K' Q := by
  unfold compOper at hio
  split at hio
  · rename_i op hop
    have hiod : io.d = o.dst ∧ io.op = op := by
      split at hio
      · simp at hio; subst hio; exact ⟨rfl, rfl⟩
      · split at hio
        · simp at hio; subst hio; exact ⟨rfl, rfl⟩
        · simp at hio
    obtain ⟨e1, e2⟩ := hiod
    unfold W1 at hW
    rw [e2, e1] at hW
    have hρ := hs.rho
    have hfr : ∀ k, st.nx ≤ k → ¬ below st.nx k := not_below _
    -- a call that goes through
    have call : ∀ (f : FuncId) (vs : List V) (us : List Value) (own' : List (Nat × TypeId × Nat)), (execOp a.eval o).run P w = .ok (.enter f us.toArray) w ∨ callOk P f = false → RepVs g w (below st.nx) vs us →
        (match passAll st.obf own' 0 vs with
          | some (cargs, u) => ∃ out, C f cargs out ∧ K (st.step o.dst (recv st.nx out).1 (u ++ (recv st.nx out).2))
          | none => False) → o.wp P a w K' Q := by
      intro f vs us own' hr hv h
      split at h
      · rename_i cargs u hp
        obtain ⟨out, hc, hk⟩ := h
        have htc := hC _ _ _ hc
        have hr := hr.resolve_right (by rw [htc.1]; simp)
        unfold Oper.wp
        rw [hr, Oper.upon_enter]
        refine (sound_call hs.inv (fun k h _ => hfr k h) hp hv htc).mono fun e w' h => ?_
        obtain ⟨r, g', rfl, h1, h2⟩ := h
        have h2' := h2.used (fresh8_below st.nx)
        exact hK _ g' w' _ hk (hs.next hd h2' (RepV.mono (Le.grow (fresh8_below st.nx)) _ _ h1)) (by rw [obf_step]; exact h2')
      · exact h.elim
    -- all else
    have plain : ∀ (v : V) (u : Upd), ev st.nx st.val st.obf op = some (v, u) → K (st.step o.dst v u) → o.wp P a w K' Q := by
      intro v u he hk
      obtain ⟨x, w', g', h1, h2, h3⟩ := ev_sound (P := P) (own := own) hop (fun _ => rfl) hρ hs.inv (hfr _ (Nat.le_refl _)) he
      have h3' := h3.used (fresh8_below st.nx)
      have hk' := hK _ g' w' (a.put o.dst x) hk (hs.next hd h3' (RepV.mono (Le.grow (fresh8_below st.nx)) _ _ h2)) (by rw [obf_step]; exact h3')
      unfold Oper.wp
      rcases h1 with h1 | ⟨h1, rfl⟩
      · rw [h1]; exact hk'
      · rw [h1]; exact hk'
    obtain ⟨dst, oop, type, pos, after, guard⟩ := o
    simp only at hop e1
    split at hW
    · -- call
      rename_i f ow xs
      obtain ⟨args, argTypes, rfl, hxs⟩ := comp_call hop
      refine call f _ (args.toList.map a.eval) ow ?_ (compXs_spec hρ hxs) hW
      cases hok : callOk P f with
      | false => exact .inr rfl
      | true =>
        left
        have hr := run_callFunc (w := w) (args := args.map a.eval) hok
        simp only [execOp, resolve, Sem.run_bind, Act.eval, Deferred.ofValue, Sem.run_pure, Result.andThen_ok, invoke, Array.append_empty, Array.empty_append]
        rw [hr]
        congr 2
        apply Array.ext'; simp
    · -- a function value
      rename_i x xs
      obtain ⟨y, args, argTypes, rfl, hy, hxs⟩ := comp_callv hop
      split at hW
      · rename_i f caps hv
        obtain ⟨ow, hW⟩ := hW
        have hfv := hρ y x hy
        rw [hv] at hfv
        obtain ⟨us, hf1, hf2⟩ := hfv
        refine call f _ (args.toList.map a.eval ++ us) ow ?_ (repVs_append (compXs_spec hρ hxs) hf2) hW
        cases hok : callOk P f with
        | false => exact .inr rfl
        | true =>
          left
          have hr := run_callFunc (w := w) (args := args.map a.eval ++ us.toArray) hok
          simp only [execOp, resolve, Sem.run_bind, hf1, Deferred.ofValue, Sem.run_pure, Result.andThen_ok, invoke, Array.empty_append]
          rw [hr]
          congr 2
          apply Array.ext'; simp
      · exact hW.elim
    · -- a method of an interface
      rename_i x ms xs
      obtain ⟨z, m, args, argTypes, rfl, hz, hms, hxs⟩ := comp_inv hop
      split at hW
      · rename_i t y hv
        split at hW
        · rename_i f hf
          have hfv := hρ z x hz
          rw [hv] at hfv
          obtain ⟨yv, hf1, hf2⟩ := hfv
          refine call f (ifV y :: xs.map st.val) (yv :: args.toList.map a.eval) [] ?_ ⟨_, _, rfl, ifV_rep hf2, compXs_spec hρ hxs⟩ hW
          cases hok : callOk P f with
          | false => exact .inr rfl
          | true =>
            left
            exact run_inv hf1 (by rw [hms] at hf; exact resolveMs_spec hf) hok
        · exact hW.elim
      · exact hW.elim
    · rename_i x
      obtain ⟨y, rfl, hy⟩ := comp_panic hop
      split at hW
      · rename_i t v hv
        have hx := hρ y x hy
        rw [hv] at hx
        have hx' := hx
        obtain ⟨z, hz, _⟩ := hx'
        have := hE t v (a.eval y) hW hx
        unfold Oper.wp
        simp only [execOp, Sem.run_bind, hz, Instr.panic, run_goPanic, Result.andThen_halt, Oper.upon_panic]
        rw [← hz]; exact this
      · exact hW.elim
    · -- is it nil?
      rename_i neg x
      obtain ⟨oo, t, y, z, ty, e, rfl, hy, hu, hz, hoo⟩ := comp_isnil hop
      split at hW
      · rename_i m cs hsl
        obtain ⟨b, cap, us, hb, _, _, hcs⟩ := sliceOf_sound hsl (hρ y x hy) hs.inv
        have hz' : ∃ zb, a.eval z = .slice zb 0 0 ∧ (∃ v, z = .const v ∧ constV v = some .nils) := by
          cases z with
          | const v =>
            obtain ⟨q, hq, hq2⟩ := map_spec hz
            simp at hq2; subst hq2
            obtain ⟨zb, hzb⟩ := repV_constV (g := g) (w := w) (U := below st.nx) hq
            exact ⟨zb, hzb, v, rfl, hq⟩
          | tmp k => simp [compX] at hz
          | func k => simp [compX] at hz
          | global k => simp [compX] at hz
        obtain ⟨zb, _, v, rfl, hv⟩ := hz'
        have hzn : v = .slice none 0 0 := by
          unfold constV at hv
          split at hv
          · simp at hv
          · unfold constC at hv
            split at hv <;> first | (simp at hv; done) | rfl
        subst hzn
        have hk := hW b.isNone (fun h => by
          rcases hcs with h' | ⟨b', off, rfl, _⟩
          · exact h'
          · simp at h)
        have hst : Step g w st.obf (below st.nx) g w (updf [] st.obf) (below (st.nx + 8)) := .same hs.inv (.inl rfl) (fun t ht => Nat.lt_of_lt_of_le ht (by omega)) fun _ _ h => h
        have hs' := hs.next (d := dst) (v := .d (.bool (neg != b.isNone))) (x := .bool (neg != b.isNone)) (u := []) hd hst (by simp [RepV, RepD])
        have := hK _ g w _ hk hs' (by rw [obf_step]; exact hst)
        unfold Oper.wp
        have hrun : (execOp a.eval ⟨dst, .binOp oo t y (.const (.slice none 0 0)) ty, type, pos, after, guard⟩).run P w = .ok (.value (.bool (neg != b.isNone))) w := by
          have heq : (Op.equal t (.slice b m cap) (.slice none 0 0)).run P w = .ok b.isNone w := equal_nil w 9999 t e b m cap hu
          have hz0 : a.eval (.const (.slice none 0 0)) = .slice none 0 0 := rfl
          rcases hoo with ⟨rfl, rfl⟩ | ⟨rfl, rfl⟩
          · have e2 : binOp .eql t (.slice b m cap) (.slice none 0 0) = (do pure (.bool (← Op.equal t (.slice b m cap) (.slice none 0 0)))) := rfl
            have e3 : (eqGuard .eql t y (.const (.slice none 0 0)) (.slice b m cap) (.slice none 0 0)).run P w = .ok () w := rfl
            simp only [execOp, hb, hz0, Sem.run_bind, e3, e2, heq, Result.andThen_ok, Sem.run_pure, Bool.false_bne]
          · have e2 : binOp .neq t (.slice b m cap) (.slice none 0 0) = (do pure (.bool (!(← Op.equal t (.slice b m cap) (.slice none 0 0))))) := rfl
            have e3 : (eqGuard .neq t y (.const (.slice none 0 0)) (.slice b m cap) (.slice none 0 0)).run P w = .ok () w := rfl
            simp only [execOp, hb, hz0, Sem.run_bind, e3, e2, heq, Result.andThen_ok, Sem.run_pure, Bool.true_bne]
        rw [hrun]
        exact this
      · exact hW.elim
    · rename_i hne1 hne2 hne3 hne4
      split at hW
      · rename_i v u he
        exact plain v u he hW
      · exact hW.elim
  · simp at hio

/-! ### instructions in order -/
theorem guard_sim {ops : Array Oper} {bef : Nat} {o : Oper} {io : OpI} (hio : compOper P own ops bef o = some io) {g : G} {w : World} {a : Act} {st : St} {U : Nat → Prop} (hs : Sim g w n a st.get st.obf U) :
    (io.g = none → Region.wanted o (yielded ops a.tmps) = true) ∧
    (∀ s want b, io.g = some (s, want) → st.get s = .d (.bool b) → s < n → Region.wanted o (yielded ops a.tmps) = decide (b = want)) ∧
    (∀ s want, io.g = some (s, want) → Bars want (st.get s) → s < n → Region.wanted o (yielded ops a.tmps) = false) ∧ io.d = o.dst := by
  unfold compOper at hio
  split at hio
  · split at hio
    · rename_i hg
      simp at hio; subst hio
      exact ⟨fun _ => by simp [Region.wanted, hg], by simp, by simp, rfl⟩
    · rename_i j want hg
      split at hio
      · rename_i s hj
        simp at hio; subst hio
        have key : ∀ b, st.get s = .d (.bool b) → s < n → Region.wanted o (yielded ops a.tmps) = decide (b = want) := by
         intro b h2 h3
         have hv := hs.slot s
         rw [h2] at hv
         simp [RepV, RepD] at hv
         have hlt : s < a.tmps.size := by rw [hs.size]; exact h3
         have hy : yielded ops a.tmps j = some b := by
           unfold yielded
           rw [hj]
           simp only [Option.bind_some]
           have : a.tmps[s]? = some (.bool b) := by
             rw [Array.getElem?_eq_getElem hlt]
             simp [Array.getD, hlt] at hv
             rw [hv]
           rw [this]
         simp only [Region.wanted, hg, hy]
         cases b <;> cases want <;> rfl
        refine ⟨by simp, fun s' want' b h1 h2 h3 => ?_, fun s' want' h1 h2 h3 => ?_, rfl⟩
        · simp at h1
          obtain ⟨rfl, rfl⟩ := h1
          exact key b h2 h3
        · simp at h1
          obtain ⟨rfl, rfl⟩ := h1
          rcases h2 with ⟨b, h2, hne⟩ | h2
          · rw [key b h2 h3]; simp [hne]
          · have hv := hs.slot s
            rw [h2] at hv
            obtain ⟨us, hv, hu⟩ := hv
            simp [RepVs] at hu; subst hu
            have hlt : s < a.tmps.size := by rw [hs.size]; exact h3
            have hy : yielded ops a.tmps j = none := by
              unfold yielded
              rw [hj]
              simp only [Option.bind_some]
              have : a.tmps[s]? = some (.tuple #[]) := by
                rw [Array.getElem?_eq_getElem hlt]
                simp [Array.getD, hlt] at hv
                rw [hv]
              rw [this]
            simp only [Region.wanted, hg, hy]
            cases want <;> rfl
      · simp at hio
  · simp at hio

def OpersOk (P : Program) (own : FuncId → List (Nat × TypeId × Nat)) (ops : Array Oper) (n : Nat) (l : List Nat) (ios : List OpI) : Prop :=
  ios.length = l.length ∧ ∀ (k i : Nat) (io : OpI), l[k]? = some i → ios[k]? = some io → ∃ o bef, ops[i]? = some o ∧ compOper P own ops bef o = some io ∧ (∀ d, o.dst = some d → d < n) ∧ (∀ s want, io.g = some (s, want) → s < n)

theorem Wops_sound (hC : ∀ f args out, C f args out → TC P f args out) {ops : Array Oper} {K : St → Prop} {E : D → St → Prop} {Q : Exit → Act → World → Prop} {g0 : G} {w0 : World} {ob0 : Gt} {U0 : Nat → Prop}
    (hK : ∀ st' g' w' a', K st' → Sim g' w' n a' st'.get st'.obf (below st'.nx) → Step g0 w0 ob0 U0 g' w' st'.obf (below st'.nx) → Q .normal a' w')
    (hE : ∀ t x v st' g' w' a', E (.iface t x) st' → RepD g'.fr w' (.iface t x) v → Sim g' w' n a' st'.get st'.obf (below st'.nx) → Step g0 w0 ob0 U0 g' w' st'.obf (below st'.nx) → Q (.panic [{ v, recovered := false }]) a' w') :
    ∀ (l : List Nat) (ios : List OpI) (st : St) (g : G) (w : World) (a : Act), OpersOk P own ops n l ios → Sim g w n a st.get st.obf (below st.nx) → Step g0 w0 ob0 U0 g w st.obf (below st.nx) → Wops C K E ios st → wpOps P ops Q l a w
  | [], [], st, g, w, a, _, hs, hstep, hW => hK st g w a hW hs hstep
  | [], _ :: _, _, _, _, _, h, _, _, _ => absurd h.1 (by simp)
  | _ :: _, [], _, _, _, _, h, _, _, _ => absurd h.1 (by simp)
  | i :: l, io :: ios, st, g, w, a, hok, hs, hstep, hW => by
    obtain ⟨o, bef, ho, hio, hd, hg⟩ := hok.2 0 i io rfl rfl
    have hok' : OpersOk P own ops n l ios := ⟨by simpa using hok.1, fun k j io' h1 h2 => hok.2 (k + 1) j io' (by simpa using h1) (by simpa using h2)⟩
    obtain ⟨q1, q2, q2', q3⟩ := guard_sim hio hs
    have one : W1 C st io (Wops C K E ios) E → o.wp P a w (wpOps P ops Q l) Q := fun h1 =>
      W1_sound hC hio hd hs h1 (fun st' g' w' a' k1 k2 k3 => Wops_sound hC hK hE l ios st' g' w' a' hok' k2 (hstep.trans k3) k1)
        (fun t x v k1 k2 => hE t x v st g w a k1 k2 hs hstep)
    have skip : Wops C K E ios (st.step io.d (.tup []) []) → wpOps P ops Q l (a.put o.dst undef) w := fun hW => by
      have hst : Step g w st.obf (below st.nx) g w (updf [] st.obf) (below (st.nx + 8)) := .same hs.inv (.inl rfl) (fun t ht => Nat.lt_of_lt_of_le ht (by omega)) fun _ _ h => h
      have hs' := hs.next (d := io.d) (v := .tup []) (x := undef) (u := []) (fun k hk => hd k (q3 ▸ hk)) hst ⟨[], rfl, rfl⟩
      rw [q3] at hs'
      refine Wops_sound hC hK hE l ios _ g w _ hok' hs' (hstep.trans ?_) (by rw [← q3]; exact hW)
      rw [obf_step]; exact hst
    simp only [Wops] at hW
    simp only [wpOps, ho]
    split at hW
    · rename_i hgn
      rw [q1 hgn, if_pos rfl]
      exact .inl (one hW)
    · rename_i s want hgs
      split at hW
      · rename_i b hb
        rw [q2 s want b hgs hb (hg s want hgs)]
        by_cases hw : b = want
        · rw [if_pos hw] at hW
          simp only [hw, decide_true, if_true]
          exact .inl (one hW)
        · rw [if_neg hw] at hW
          simp only [hw, decide_false, Bool.false_eq_true, if_false]
          exact skip hW
      · rename_i hb
        rw [q2' s want hgs (.inr hb) (hg s want hgs)]
        simp only [Bool.false_eq_true, if_false]
        exact skip hW
      · exact hW.elim

theorem compOpers_ok {ops : Array Oper} : ∀ {bs : List Nat} {os : List Oper} {ios : List OpI}, compOpers P own ops bs os = some ios → ios.length = os.length ∧ ∀ (k : Nat) (o : Oper) (io : OpI), os[k]? = some o → ios[k]? = some io → compOper P own ops (bs.getD k 0) o = some io
  | bs, [], _, h => by cases bs <;> (simp [compOpers] at h; subst h; exact ⟨rfl, by simp⟩)
  | [], o :: r, _, h => by
    simp only [compOpers] at h
    split at h
    · rename_i x xs h1 h2
      simp at h; subst h
      obtain ⟨e1, e2⟩ := compOpers_ok h2
      refine ⟨by simp [e1], fun k o' io' k1 k2 => ?_⟩
      cases k with
      | zero => simp at k1 k2; subst k1 k2; exact h1
      | succ k => simpa using e2 k o' io' (by simpa using k1) (by simpa using k2)
    · simp at h
  | b :: bs, o :: r, _, h => by
    simp only [compOpers] at h
    split at h
    · rename_i x xs h1 h2
      simp at h; subst h
      obtain ⟨e1, e2⟩ := compOpers_ok h2
      refine ⟨by simp [e1], fun k o' io' k1 k2 => ?_⟩
      cases k with
      | zero => simp at k1 k2; subst k1 k2; exact h1
      | succ k => simpa using e2 k o' io' (by simpa using k1) (by simpa using k2)
    · simp at h
theorem dstOk_spec {os : List Oper} (h : dstOk n os = true) {o : Oper} (ho : o ∈ os) {d : Tmp} (hd : o.dst = some d) : d < n := by
  have := List.all_eq_true.1 h o ho
  rw [hd] at this
  simpa using this
theorem guard_lt {ops : Array Oper} {bef : Nat} {o : Oper} {io : OpI} (hio : compOper P own ops bef o = some io) (hd : dstOk n ops.toList = true) : ∀ s want, io.g = some (s, want) → s < n := by
  intro s want hg
  unfold compOper at hio
  split at hio
  · split at hio
    · simp at hio; subst hio; simp at hg
    · split at hio
      · rename_i j want' hgd _ s' hj
        simp at hio; subst hio
        simp at hg
        obtain ⟨rfl, rfl⟩ := hg
        cases ho : ops[j]? with
        | none => simp [ho] at hj
        | some o' =>
          simp [ho] at hj
          exact dstOk_spec hd (o := o') (by have := Array.mem_of_getElem? ho; simpa using this) hj
      · simp at hio
  · simp at hio
theorem opersOk_range {ops : Array Oper} {bs : List Nat} {ios : List OpI} (h : compOpers P own ops bs ops.toList = some ios) (hd : dstOk n ops.toList = true) : OpersOk P own ops n (List.range ops.size) ios := by
  obtain ⟨e1, e2⟩ := compOpers_ok h
  refine ⟨by simpa using e1, fun k i io k1 k2 => ?_⟩
  have hk : k < ops.size := by
    rcases Nat.lt_or_ge k ops.size with h | h
    · exact h
    · rw [List.getElem?_eq_none (by simpa using h)] at k1; cases k1
  have hi : i = k := by simpa [hk] using k1.symm
  subst hi
  have ho : ops[i]? = some ops[i] := Array.getElem?_eq_getElem hk
  have hc := e2 i ops[i] io (by simp [hk]) k2
  exact ⟨ops[i], _, ho, hc, fun d hd' => dstOk_spec hd (by simp) hd', guard_lt hc hd⟩
end
end Go.Vk
