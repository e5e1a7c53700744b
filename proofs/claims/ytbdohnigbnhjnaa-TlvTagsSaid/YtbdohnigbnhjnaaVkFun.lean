/- The walk over ideal states is sound: whole texts, whole functions. -/
import Derived.Test.YtbdohnigbnhjnaaVkNorm
import Derived.Deep.LoopGhost
import Derived.ScopeJumps
set_option linter.unusedSimpArgs false
set_option linter.unusedVariables false
set_option linter.unusedSectionVars false
namespace Go.Vk

def ExRel (g : G) (w : World) : Ex → Exit → Prop
  | .norm, .normal => True
  | .ex i, .exit j => i = j
  | .go l, .goto k => l = k
  | .ret, .ret => True
  | .pan d, .panic ch => ∃ t x v, d = .iface t x ∧ ch = [{ v, recovered := false }] ∧ RepD g.fr w d v
  | _, _ => False

/-- What holds at an end, said of memory. -/
def PQ (n : Nat) (g0 : G) (w0 : World) (ob0 : Gt) (Q : Ex → St → Prop) : Exit → Act → World → Prop := fun x a w =>
  ∃ e st g, Q e st ∧ ExRel g w e x ∧ Sim g w n a st.get st.obf (below st.nx) ∧ Step g0 w0 ob0 (below 64) g w st.obf (below st.nx)

def SI (P : Program) (own : FuncId → List (Nat × TypeId × Nat)) (n : Nat) (ic : IC) (st : St) (Q : Ex → St → Prop) : Prop :=
  ∀ c, compC P own n c = some ic → ∀ g0 w0 ob0 g w a, Sim g w n a st.get st.obf (below st.nx) → Step g0 w0 ob0 (below 64) g w st.obf (below st.nx) → c.wp P (PQ n g0 w0 ob0 Q) a w

section
variable {P : Program} {C : Con} {own : FuncId → List (Nat × TypeId × Nat)} {n : Nat}

theorem comp_seq {c : Code} {a b : IC} (h : compC P own n c = some (.seq a b)) : ∃ x y, c = .seq x y ∧ compC P own n x = some a ∧ compC P own n y = some b := by
  cases c
  case seq x y =>
    simp only [compC] at h
    split at h
    · rename_i a' b' h1 h2
      simp at h
      obtain ⟨rfl, rfl⟩ := h
      exact ⟨x, y, rfl, h1, h2⟩
    · simp at h
  all_goals (simp only [compC] at h; (repeat' split at h) <;> simp [Option.map_eq_some_iff] at h)
theorem comp_scope {c : Code} {a : IC} (h : compC P own n c = some (.scope a)) : ∃ x, c = .scope x ∧ compC P own n x = some a := by
  cases c
  case scope x =>
    simp only [compC] at h
    obtain ⟨z, h1, h2⟩ := map_spec h
    simp at h2; subst h2
    exact ⟨x, rfl, h1⟩
  all_goals (simp only [compC] at h; (repeat' split at h) <;> simp [Option.map_eq_some_iff] at h)

theorem W_sound (hC : ∀ f args out, C f args out → TC P f args out) : ∀ (c : Code) (ic : IC) (st : St) (Q : Ex → St → Prop), compC P own n c = some ic → W C ic st Q → ∀ g0 w0 ob0 g w a,
    Sim g w n a st.get st.obf (below st.nx) → Step g0 w0 ob0 (below 64) g w st.obf (below st.nx) → c.wp P (PQ n g0 w0 ob0 Q) a w := by
  intro c
  induction c with
  | skip =>
    intro ic st Q hc hW g0 w0 ob0 g w a hs hst
    simp [compC] at hc; subst hc
    exact wp_skip ⟨.norm, st, g, hW, trivial, hs, hst⟩
  | region id ops draw =>
    intro ic st Q hc hW g0 w0 ob0 g w a hs hst
    simp only [compC] at hc
    split at hc
    · rename_i hd
      split at hc
      · rename_i hdr
        subst hdr
        split at hc
        · rename_i he
          simp only [Bool.and_eq_true] at he
          split at hc
          · rename_i ios hios
            split at hc
            · rename_i hsl
              simp at hc; subst hc
              exact wp_draw hC he.2 hios hd hsl he.1 hs hW fun st' g' w' a' h1 h2 h3 => ⟨.norm, st', g', h1, trivial, h2, hst.trans h3⟩
            · simp at hc
          · simp at hc
        · simp at hc
      · rename_i hdr
        have hdr' : draw = false := by simpa using hdr
        subst hdr'
        obtain ⟨ios, h1, rfl⟩ := map_spec hc
        refine wp_region (Wops_sound hC (n := n) (own := own) (g0 := g0) (w0 := w0) (ob0 := ob0) (U0 := below 64) ?_ ?_ _ ios st g w a (opersOk_range h1 hd) hs hst hW)
        · intro st' g' w' a' k1 k2 k3
          exact ⟨.norm, st', g', k1, trivial, k2, k3⟩
        · intro t x v st' g' w' a' k1 k2 k3 k4
          exact ⟨.pan (.iface t x), st', g', k1, ⟨t, x, v, rfl, rfl, k2⟩, k3, k4⟩
    · simp at hc
  | seq x y ihx ihy =>
    intro ic st Q hc hW g0 w0 ob0 g w a hs hst
    simp only [compC] at hc
    split at hc
    · rename_i ia ib h1 h2
      simp at hc; subst hc
      refine wp_seq (wp_mono (ihx ia st _ h1 hW g0 w0 ob0 g w a hs hst) fun e a' w' hq => ?_)
      obtain ⟨e', st', g', q1, q2, q3, q4⟩ := hq
      cases e' <;> cases e <;> simp only [ExRel] at q2 <;> simp only [Exit.then]
      · exact ihy ib st' Q h2 q1 g0 w0 ob0 g' w' a' q3 q4
      all_goals first | exact q2.elim | exact ⟨_, st', g', q1, q2, q3, q4⟩
    · simp at hc
  | cond op x y ihx ihy =>
    intro ic st Q hc hW g0 w0 ob0 g w a hs hst
    simp only [compC] at hc
    split at hc
    · rename_i o' ia ib h0 h1 h2
      simp at hc; subst hc
      simp only [W] at hW
      split at hW
      · rename_i t ht
        have hv := hs.rho _ _ h0
        rw [ht] at hv
        simp [RepV, RepD] at hv
        cases t with
        | true => exact wp_cond_true hv (ihx ia st Q h1 (by simpa using hW) g0 w0 ob0 g w a hs hst)
        | false => exact wp_cond_false hv (ihy ib st Q h2 (by simpa using hW) g0 w0 ob0 g w a hs hst)
      · exact hW.elim
    · simp at hc
  | block id x ih =>
    intro ic st Q hc hW g0 w0 ob0 g w a hs hst
    simp only [compC] at hc
    obtain ⟨ia, h1, rfl⟩ := map_spec hc
    refine wp_block (wp_mono (ih ia st _ h1 hW g0 w0 ob0 g w a hs hst) fun e a' w' hq => ?_)
    obtain ⟨e', st', g', q1, q2, q3, q4⟩ := hq
    cases e' <;> cases e <;> simp only [ExRel] at q2 <;> simp only [Exit.inBlock] <;> first | exact q2.elim | skip
    case ex.exit i j =>
      subst q2
      simp only at q1
      split at q1
      · rename_i hi; rw [if_pos hi]; exact ⟨.norm, st', g', q1, trivial, q3, q4⟩
      · rename_i hi; rw [if_neg hi]; exact ⟨.ex i, st', g', q1, rfl, q3, q4⟩
    all_goals exact ⟨_, st', g', q1, q2, q3, q4⟩
  | loop x ih =>
    intro ic st Q hc hW g0 w0 ob0 g w a hs hst
    simp only [compC] at hc
    obtain ⟨ia, h1, rfl⟩ := map_spec hc
    obtain ⟨k, ds, I, hk, ⟨m, st0, hn, hI⟩, hround⟩ := hW
    obtain ⟨g', hs', hst'⟩ := norm_sound hk hs hn hst
    refine wp_loop_ghost (fun m a w => ∃ st g, I m st ∧ Sim g w n a st.get st.obf (below st.nx) ∧ Step g0 w0 ob0 (below 64) g w st.obf (below st.nx)) m ⟨st0, g', hI, hs', hst'⟩ ?_
    rintro m a w ⟨st1, g1, hI1, hs1, hst1⟩
    refine wp_mono (ih ia st1 _ h1 (hround m st1 hI1) g0 w0 ob0 g1 w a hs1 hst1) fun e a' w' hq => ?_
    obtain ⟨e', st', g', q1, q2, q3, q4⟩ := hq
    cases e' <;> cases e <;> simp only [ExRel] at q2 <;> simp only [Exit.then] <;> first | exact q2.elim | skip
    · obtain ⟨m', st2, hlt, hn2, hI2⟩ := q1
      obtain ⟨g2, hs2, hst2⟩ := norm_sound hk q3 hn2 q4
      exact ⟨m', hlt, st2, g2, hI2, hs2, hst2⟩
    all_goals exact ⟨_, st', g', q1, q2, q3, q4⟩
  | exit id =>
    intro ic st Q hc hW g0 w0 ob0 g w a hs hst
    simp [compC] at hc; subst hc
    exact wp_exit ⟨.ex id, st, g, hW, rfl, hs, hst⟩
  | scope x ih =>
    intro ic st Q hc hW g0 w0 ob0 g w a hs hst
    simp only [compC] at hc
    obtain ⟨ia, h1, rfl⟩ := map_spec hc
    exact hW.elim
  | label l =>
    intro ic st Q hc hW g0 w0 ob0 g w a hs hst
    simp [compC] at hc; subst hc
    exact wp_label ⟨.norm, st, g, hW, trivial, hs, hst⟩
  | goto l =>
    intro ic st Q hc hW g0 w0 ob0 g w a hs hst
    simp [compC] at hc; subst hc
    exact wp_goto ⟨.go l, st, g, hW, rfl, hs, hst⟩
  | ret =>
    intro ic st Q hc hW g0 w0 ob0 g w a hs hst
    simp [compC] at hc; subst hc
    exact wp_ret ⟨.ret, st, g, hW, trivial, hs, hst⟩
  | refuse why => intro ic st Q hc; simp [compC] at hc
  | rangeFunc f ps x y => intro ic st Q hc; simp [compC] at hc

theorem W_SI (hC : ∀ f args out, C f args out → TC P f args out) {ic : IC} {st : St} {Q : Ex → St → Prop} (h : W C ic st Q) : SI P own n ic st Q :=
  fun c hc g0 w0 ob0 g w a hs hst => W_sound hC c ic st Q hc h g0 w0 ob0 g w a hs hst
theorem SI.mono {ic : IC} {st : St} {Q Q' : Ex → St → Prop} (h : SI P own n ic st Q) (hq : ∀ e st', Q e st' → Q' e st') : SI P own n ic st Q' :=
  fun c hc g0 w0 ob0 g w a hs hst => wp_mono (h c hc g0 w0 ob0 g w a hs hst) fun _ _ _ ⟨e, st', g', q1, q2⟩ => ⟨e, st', g', hq _ _ q1, q2⟩
theorem SI.seq {ia ib : IC} {st : St} {Q : Ex → St → Prop} (h : SI P own n ia st fun e st' => match e with | .norm => SI P own n ib st' Q | e => Q e st') : SI P own n (.seq ia ib) st Q := by
  intro c hc g0 w0 ob0 g w a hs hst
  obtain ⟨x, y, rfl, h1, h2⟩ := comp_seq hc
  refine wp_seq (wp_mono (h x h1 g0 w0 ob0 g w a hs hst) fun e a' w' hq => ?_)
  obtain ⟨e', st', g', q1, q2, q3, q4⟩ := hq
  cases e' <;> cases e <;> simp only [ExRel] at q2 <;> simp only [Exit.then]
  · exact q1 y h2 g0 w0 ob0 g' w' a' q3 q4
  all_goals first | exact q2.elim | exact ⟨_, st', g', q1, q2, q3, q4⟩

def IC.lab : IC → Nat → Option IC
  | .seq a b, l =>
    match a.lab l with
    | some rest => some (.seq rest b)
    | none => b.lab l
  | .label l', l => if l' == l then some .skip else none
  | _, _ => none
theorem comp_lab : ∀ (c : Code) (ic : IC) (l : Nat), compC P own n c = some ic → (ic.lab l = none → findLabel c l = none) ∧ ∀ r, ic.lab l = some r → ∃ rest, findLabel c l = some rest ∧ compC P own n rest = some r := by
  intro c
  induction c with
  | seq x y ihx ihy =>
    intro ic l hc
    simp only [compC] at hc
    split at hc
    · rename_i ia ib h1 h2
      simp at hc; subst hc
      obtain ⟨a1, a2⟩ := ihx ia l h1
      obtain ⟨b1, b2⟩ := ihy ib l h2
      simp only [IC.lab, findLabel]
      cases hl : ia.lab l with
      | some r =>
        obtain ⟨rest, k1, k2⟩ := a2 r hl
        refine ⟨by simp, fun r' hr => ?_⟩
        simp at hr; subst hr
        exact ⟨.seq rest y, by rw [k1], by simp [compC, k2, h2]⟩
      | none =>
        rw [a1 hl]
        exact ⟨b1, b2⟩
    · simp at hc
  | label l' =>
    intro ic l hc
    simp [compC] at hc; subst hc
    simp only [IC.lab, findLabel]
    by_cases h : (l' == l) = true
    · simp only [h, if_true]
      refine ⟨by simp, fun r hr => ?_⟩
      simp at hr; subst hr
      exact ⟨.skip, rfl, rfl⟩
    · simp [h]
  | skip => intro ic l hc; simp [compC] at hc; subst hc; simp [IC.lab, findLabel]
  | exit => intro ic l hc; simp [compC] at hc; subst hc; simp [IC.lab, findLabel]
  | goto => intro ic l hc; simp [compC] at hc; subst hc; simp [IC.lab, findLabel]
  | ret => intro ic l hc; simp [compC] at hc; subst hc; simp [IC.lab, findLabel]
  | region => intro ic l hc; simp only [compC] at hc; (repeat' split at hc) <;> first | (simp at hc; done) | (simp at hc; subst hc; simp [IC.lab, findLabel]; done) | (obtain ⟨_, _, rfl⟩ := map_spec hc; simp [IC.lab, findLabel])
  | cond => intro ic l hc; simp only [compC] at hc; (repeat' split at hc) <;> first | (simp at hc; done) | (simp at hc; subst hc; simp [IC.lab, findLabel])
  | block => intro ic l hc; simp only [compC] at hc; obtain ⟨_, _, rfl⟩ := map_spec hc; simp [IC.lab, findLabel]
  | loop => intro ic l hc; simp only [compC] at hc; obtain ⟨_, _, rfl⟩ := map_spec hc; simp [IC.lab, findLabel]
  | scope => intro ic l hc; simp only [compC] at hc; obtain ⟨_, _, rfl⟩ := map_spec hc; simp [IC.lab, findLabel]
  | refuse => intro ic l hc; simp [compC] at hc
  | rangeFunc => intro ic l hc; simp [compC] at hc

theorem wp_scope_ghost {c rest : Code} {Q : Exit → Act → World → Prop} {a : Act} {w : World} (l : Nat) (J : Nat → Act → World → Prop) (hf : findLabel c l = some rest)
    (first : c.wp P (Exit.jump l (fun a w => ∃ m, J m a w) Q) a w) (pass : ∀ m a w, J m a w → rest.wp P (Exit.jump l (fun a' w' => ∃ m', m' < m ∧ J m' a' w') Q) a w) : (Code.scope c).wp P Q a w := by
  refine wp_scope_jumps l (fun a w => ∃ m, J m a w) (fun a w => leastOf fun m => J m a w) hf first ?_
  intro a w hJ
  refine wp_mono (pass _ a w (leastOf_spec hJ).1) ?_
  intro e a' w' hq
  cases e with
  | goto l' =>
    obtain ⟨h1, m', hlt, hJ'⟩ := hq
    exact ⟨h1, ⟨m', hJ'⟩, Nat.lt_of_le_of_lt ((leastOf_spec ⟨m', hJ'⟩).2 m' hJ') hlt⟩
  | _ => exact hq

/-- A scope in which the run jumps to one label. -/
theorem SI.scope {ic rest : IC} {st : St} {Q : Ex → St → Prop} (l k : Nat) (ds : List Dir) (J : Nat → St → Prop) (hk : 64 ≤ k) (hl : ic.lab l = some rest)
    (first : SI P own n ic st fun e st' => match e with
      | .go l' => l' = l ∧ ∃ m st0, norm k ds st' = some st0 ∧ J m st0
      | e => Q e st')
    (pass : ∀ m st, J m st → SI P own n rest st fun e st' => match e with
      | .go l' => l' = l ∧ ∃ m' st0, m' < m ∧ norm k ds st' = some st0 ∧ J m' st0
      | e => Q e st') : SI P own n (.scope ic) st Q := by
  intro c hc g0 w0 ob0 g w a hs hst
  obtain ⟨x, rfl, h1⟩ := comp_scope hc
  obtain ⟨rc, h2, h3⟩ := (comp_lab x ic l h1).2 rest hl
  refine wp_scope_ghost l (fun m a w => ∃ st g, J m st ∧ Sim g w n a st.get st.obf (below st.nx) ∧ Step g0 w0 ob0 (below 64) g w st.obf (below st.nx)) h2 ?_ ?_
  · refine wp_mono (first x h1 g0 w0 ob0 g w a hs hst) fun e a' w' hq => ?_
    obtain ⟨e', st', g', q1, q2, q3, q4⟩ := hq
    cases e' <;> cases e <;> simp only [ExRel] at q2 <;> simp only [Exit.jump] <;> first | exact q2.elim | skip
    case go.goto i j =>
      subst q2
      obtain ⟨q5, m, st0, q6, q7⟩ := q1
      obtain ⟨g2, hs2, hst2⟩ := norm_sound hk q3 q6 q4
      exact ⟨q5, m, st0, g2, q7, hs2, hst2⟩
    all_goals exact ⟨_, st', g', q1, q2, q3, q4⟩
  · rintro m a w ⟨st1, g1, hJ1, hs1, hst1⟩
    refine wp_mono (pass m st1 hJ1 rc h3 g0 w0 ob0 g1 w a hs1 hst1) fun e a' w' hq => ?_
    obtain ⟨e', st', g', q1, q2, q3, q4⟩ := hq
    cases e' <;> cases e <;> simp only [ExRel] at q2 <;> simp only [Exit.jump] <;> first | exact q2.elim | skip
    case go.goto i j =>
      subst q2
      obtain ⟨q5, m', st0, hlt, q6, q7⟩ := q1
      obtain ⟨g2, hs2, hst2⟩ := norm_sound hk q3 q6 q4
      exact ⟨q5, m', hlt, st0, g2, q7, hs2, hst2⟩
    all_goals exact ⟨_, st', g', q1, q2, q3, q4⟩

/-! ### functions -/
def enumFrom (k : Nat) : List V → List (Nat × V)
  | [] => []
  | v :: r => (k, v) :: enumFrom (k + 1) r
def init (args : List V) : St := { sl := enumFrom 0 (recvs 0 args).1, ob := upd (recvs 0 args).2 [], nx := 64 }

def resV (st : St) : IR → Option V
  | .t n => some (st.get n)
  | .cell n k =>
    match st.get n with
    | .ptr b off =>
      match st.obf b with
      | some (.box cs) => match k with
        | none => cs[off]?
        | some k => if off + k ≤ cs.length then some (.agg ((cs.drop off).take k)) else none
      | _ => none
    | _ => none
def resVs (st : St) : List IR → Option (List V)
  | [] => some []
  | r :: rs => match resV st r, resVs st rs with
    | some v, some vs => some (v :: vs)
    | _, _ => none
def outOf : List V → V
  | [c] => c
  | cs => .tup cs

/-- What a function's end must show. -/
def Returns (rs : List IR) (out : V) (e : Ex) (st : St) : Prop :=
  (e = .ret ∨ e = .norm) ∧ ∃ vs own cs u, resVs st rs = some vs ∧ passAll st.obf own 0 vs = some (cs, u) ∧ out = outOf cs

theorem aget_enumFrom : ∀ (vs : List V) (k s : Nat), aget s (enumFrom k vs) = if k ≤ s then vs[s - k]? else none
  | [], k, s => by simp [enumFrom, aget]
  | v :: r, k, s => by
    simp only [enumFrom, aget]
    rw [aget_enumFrom r (k + 1) s]
    by_cases h : k = s
    · subst h; simp
    · rw [if_neg h]
      by_cases h2 : k ≤ s
      · rw [if_pos h2, if_pos (by omega), show s - k = (s - (k + 1)) + 1 by omega, List.getElem?_cons_succ]
      · rw [if_neg h2, if_neg (by omega)]
theorem recvs_length : ∀ (id : Nat) (vs : List V), (recvs id vs).1.length = vs.length
  | _, [] => rfl
  | id, v :: r => by simp [recvs, recvs_length (id + 1) r]

def resS (a : Act) : ResultVar → Sem Value
  | .tmp t => pure (a.tmps.getD t undef)
  | .cell p t => do loadVar t (← asAddr (a.tmps.getD p undef))
theorem run_resV {g : G} {w : World} {a : Act} {st : St} {r : ResultVar} {ir : IR} {v : V} (hs : Sim g w n a st.get st.obf (below st.nx)) (hr : compR P [r] = some [ir]) (hv : resV st ir = some v) :
    ∃ u, (resS a r).run P w = .ok u w ∧ RepV g w (below st.nx) v u := by
  cases r with
  | tmp t =>
    simp [compR] at hr; subst hr
    simp [resV] at hv; subst hv
    exact ⟨_, rfl, hs.slot t⟩
  | cell p t =>
    simp only [compR] at hr
    split at hr
    · rename_i k l hk hl
      simp at hr
      obtain ⟨rfl, rfl⟩ := hr
      simp only [resV] at hv
      split at hv
      · rename_i b off hb
        split at hv
        · rename_i cs ho
          have hp := hs.slot p
          rw [hb] at hp
          obtain ⟨_, hp⟩ := hp
          obtain ⟨us, h1, h2⟩ := ob_cells hs.inv ho
          simp only [Ob.cells] at h1
          have hlu := repVs_length h1
          simp only [resS, hp, asAddr]
          split at hv
          · obtain ⟨u, hu, hru⟩ := repVs_get off h1 hv
            exact ⟨u, by simp [run_loadVar1 hk (h2 off u hu)], hru⟩
          · rename_i m
            split at hv
            · rename_i hm
              simp at hv; subst hv
              refine ⟨.agg ((us.drop off).take m).toArray, ?_, _, rfl, repVs_take m (repVs_drop off h1)⟩
              have := run_loadVarN (w := w) (b := g.ph b) (off := off) (us := (us.drop off).take m) hk (by simp; omega) (fun i u hu => by
                rw [List.getElem?_take] at hu
                split at hu
                · exact h2 _ u (by simpa using hu)
                · cases hu)
              simp [this]
            · simp at hv
        · simp at hv
      · simp at hv
    · simp at hr
theorem compR_cons {r : ResultVar} {rs : List ResultVar} {irs : List IR} (h : compR P (r :: rs) = some irs) : ∃ ir irs', irs = ir :: irs' ∧ compR P [r] = some [ir] ∧ compR P rs = some irs' := by
  cases r with
  | tmp t =>
    simp only [compR] at h
    obtain ⟨l, h1, rfl⟩ := map_spec h
    exact ⟨_, l, rfl, by simp [compR], h1⟩
  | cell p t =>
    simp only [compR] at h
    split at h
    · rename_i k l hk hl
      simp at h; subst h
      exact ⟨_, l, rfl, by simp [compR, hk], hl⟩
    · simp at h
theorem run_resVs {g : G} {w : World} {a : Act} {st : St} (hs : Sim g w n a st.get st.obf (below st.nx)) : ∀ {rs : List ResultVar} {irs : List IR} {vs : List V}, compR P rs = some irs → resVs st irs = some vs →
    ∃ us, (rs.mapM (resS a)).run P w = .ok us w ∧ RepVs g w (below st.nx) vs us
  | [], irs, vs, h, hv => by
    simp [compR] at h; subst h
    simp [resVs] at hv; subst hv
    exact ⟨[], by simp, rfl⟩
  | r :: rs, irs, vs, h, hv => by
    obtain ⟨ir, irs', rfl, h1, h2⟩ := compR_cons h
    simp only [resVs] at hv
    split at hv
    · rename_i v vs' h3 h4
      simp at hv; subst hv
      obtain ⟨u, k1, k2⟩ := run_resV hs h1 h3
      obtain ⟨us, k3, k4⟩ := run_resVs hs h2 h4
      refine ⟨u :: us, ?_, u, us, rfl, k2, k4⟩
      simp only [List.mapM_cons, Sem.run_bind, k1, k3, Result.andThen_ok, Sem.run_pure]
    · simp at hv

theorem passV_notup {ob : Gt} {own : Option (TypeId × Nat)} {v c : V} {u : Upd} (h : passV ob own v = some (c, u)) (vs : List V) : c ≠ .tup vs := by
  unfold passV at h
  (repeat' split at h) <;> first | (simp at h; done) | (simp at h; obtain ⟨rfl, _⟩ := h; simp)
theorem passAll_notup : ∀ {vs : List V} {own : List (Nat × TypeId × Nat)} {i : Nat} {cs : List V} {u : Upd} {ob : Gt}, passAll ob own i vs = some (cs, u) → ∀ c ∈ cs, ∀ vs', c ≠ .tup vs'
  | [], _, _, _, _, _, h => by simp [passAll] at h; obtain ⟨rfl, _⟩ := h; simp
  | v :: r, own, i, cs, u, ob, h => by
    simp only [passAll] at h
    split at h
    · rename_i c u1 h1
      split at h
      · rename_i cs' u2 h2
        simp at h
        obtain ⟨rfl, rfl⟩ := h
        intro x hx vs'
        rcases List.mem_cons.1 hx with rfl | hx
        · exact passV_notup h1 vs'
        · exact passAll_notup h2 x hx vs'
      · simp at h
    · simp at h

/-- THE CONTRACT of a function out of its walk. -/
theorem TC_of_SI {f : FuncId} {fn : Func} {fi : IF} {args : List V} {out : V} (hf : P.funcs[f]? = some fn) (hok : callOk P f = true) (hc : compF P own fn = some fi) (hlen : args.length ≤ fi.nt) (hlen2 : args.length ≤ 64)
    (h : SI P own fi.nt fi.body (init args) (Returns fi.rs out)) : TC P f args out := by
  refine ⟨hok, fun fr w us bl hr hnd => ?_⟩
  unfold compF at hc
  split at hc
  · rename_i c hbody
    split at hc
    · rename_i ic rs h1 h2
      simp at hc; subst hc
      have hlen' : args.length ≤ fn.ntmps := hlen
      -- the objects at the start
      let gb : G := .bare fr
      have hI0 : Inv gb w (fun _ => Option.none) none' := ⟨fun t o h => (by cases h), fun t o t' o' h => (by cases h)⟩
      obtain ⟨g, r1, r2, r3, r4, r5⟩ := adopt args us bl 0 gb (fun _ => Option.none) none' hI0 hr hnd (fun t o h => (by cases h)) (fun _ _ _ h => h)
      have hsub : ∀ t, namesFrom none' 0 args.length t → below 64 t := fun t ht => by
        rcases ht with h | h
        · exact h.elim
        · unfold below; omega
      have hob : (init args).obf = updf (recvs 0 args).2 (fun _ => Option.none) := by
        unfold init St.obf
        rw [aget_upd]
        rfl
      have hul := repVs_length r4
      rw [recvs_length] at hul
      have hle : Le g w (namesFrom none' 0 args.length) g w (below 64) := Le.grow hsub
      let a : Act := { tmps := us.toArray ++ Array.replicate (fn.ntmps - us.toArray.size) undef, defers := [] }
      have hsim : Sim g w fn.ntmps a (init args).get (init args).obf (below (init args).nx) := by
        refine ⟨rfl, by simp only [a, Array.size_append, Array.size_replicate, List.size_toArray]; omega, fun s => ?_, by rw [hob]; exact r3.used hsub⟩
        have hget : (init args).get s = ((recvs 0 args).1[s]?).getD .dead := by
          unfold init St.get
          simp only [aget_enumFrom]
          simp
        rw [hget]
        cases hv : (recvs 0 args).1[s]? with
        | none => trivial
        | some v =>
          obtain ⟨u, hu, hru⟩ := repVs_get s r4 hv
          have hlt : s < us.length := by
            rcases Nat.lt_or_ge s us.length with h | h
            · exact h
            · rw [List.getElem?_eq_none h] at hu; cases hu
          have : a.tmps.getD s undef = u := by
            simp only [a]
            rw [List.getElem?_eq_getElem hlt] at hu
            simp at hu
            simp [Array.getD, Array.getElem_append, hlt, show s < us.length + (fn.ntmps - us.length) by omega, hu]
          rw [this]
          exact RepV.mono hle _ _ hru
      have hst0 : Step g w (init args).obf (below 64) g w (init args).obf (below (init args).nx) := .same hsim.inv (.inl rfl) (fun _ h => h) fun _ _ h => h
      refine calls_of_wp hf hbody (wp_mono (h c h1 g w (init args).obf g w a hsim hst0) fun e a' w' hq => ?_)
      obtain ⟨e', st', g', ⟨q0, vs, own', cs, u, q1, q2, q3⟩, qe, qs, qst⟩ := hq
      obtain ⟨rus, k1, k2⟩ := run_resVs (P := P) qs h2 q1
      obtain ⟨g2, bl', s1, c1, n1, _, o1, _⟩ := passAll_sound q2 k2 qs.inv
      have hres : (results fn a'.tmps).run P w' = .ok (if h : rus.length = 1 then rus[0] else .tuple rus.toArray) w' := by
        have e1 : results fn a'.tmps = (do let vs ← fn.results.mapM (resS a'); pure (if h : vs.size = 1 then vs[0] else .tuple vs)) := rfl
        rw [e1, Array.mapM_eq_mapM_toList]
        simp only [Sem.run_bind, Sem.run_map, k1, Result.andThen_ok, Sem.run_pure]
        simp
      have hcl := repVs_length k2
      -- the whole step from the start
      have hall := qst.trans s1
      have hframe : Frame fr w bl g2.fr w' := {
        ext := by have := hall.le.ext; rw [r1] at this; exact this
        size := hall.size
        os := hall.os
        tape := hall.tape
        output := hall.output
        keep := fun b hb hnb => by
          have := hall.keep b hb fun t o ht hs' he => by
            rw [hob] at ht
            rcases r5 t o ht hs' with ⟨k, _⟩ | k
            · cases k
            · exact hnb (he ▸ k)
          rw [r1] at this
          exact this }
      have hbl : ∀ b ∈ bl', b ∈ bl ∨ w.heap.size ≤ b := fun b hb => by
        obtain ⟨t, o, e1, e2, e3⟩ := o1 b hb
        rcases qst.new t o e1 e2 with k | ⟨t0, o0, k1, k2, k3⟩
        · exact .inr (e3 ▸ k)
        · rw [hob] at k1
          rcases r5 t0 o0 k1 k2 with ⟨k, _⟩ | k
          · cases k
          · exact .inl (by rw [← e3, ← k3]; exact k)
      have hO : RepO g2.fr w' out (if h : rus.length = 1 then rus[0] else .tuple rus.toArray) bl' := by
        subst q3
        have hcs : cs.length = rus.length := by
          have : ∀ (cs : List V) (us : List Value) (bl : List Nat), RepCs g2.fr w' cs us bl → cs.length = us.length := by
            intro cs
            induction cs with
            | nil => intro us bl h; rw [h.1]; rfl
            | cons x r ih => intro us bl h; obtain ⟨u, s, b1, b2, rfl, _, _, h4⟩ := h; simp [ih s b2 h4]
          exact this cs rus bl' c1
        by_cases h1' : rus.length = 1
        · rw [dif_pos h1']
          have hnt := passAll_notup q2
          obtain ⟨y, rfl⟩ := List.length_eq_one_iff.1 h1'
          obtain ⟨x, rfl⟩ := List.length_eq_one_iff.1 (hcs.trans h1')
          obtain ⟨u', s', b1, b2, e1, e2, e3, e4⟩ := c1
          simp at e1
          obtain ⟨rfl, rfl⟩ := e1
          have := e4.2
          subst this
          simp at e2; subst e2
          show RepO g2.fr w' (outOf [x]) y bl'
          simp only [outOf]
          cases x with
          | tup vs' => exact absurd rfl (hnt _ (by simp) vs')
          | _ => exact e3
        · rw [dif_neg h1']
          have : outOf cs = .tup cs := by
            match cs, hcs with
            | [], _ => rfl
            | [_], h => exact absurd h.symm h1'
            | _ :: _ :: _, _ => rfl
          rw [this]
          exact ⟨rus, rfl, c1⟩
      have hfin : a'.defers = [] ∧ ∃ v, (results fn a'.tmps).run P w' = .ok v w' ∧ ∃ u fr' bl', Ending.returned v = .returned u ∧ RepO fr' w' out u bl' ∧ bl'.Nodup ∧ Frame fr w bl fr' w' ∧ ∀ b ∈ bl', b ∈ bl ∨ w.heap.size ≤ b :=
        ⟨qs.defers, _, hres, _, g2.fr, bl', rfl, hO, n1, hframe, hbl⟩
      rcases q0 with rfl | rfl
      · cases e <;> simp only [ExRel] at qe
        exact hfin
      · cases e <;> simp only [ExRel] at qe
        exact hfin
    · simp at hc
  · simp at hc

/-- A function's end, computed. -/
def RetB (own : List (Nat × TypeId × Nat)) (rs : List IR) (out : V) (e : Ex) (st : St) : Prop :=
  match e with
  | .ret | .norm => match resVs st rs with
    | some vs => match passAll st.obf own 0 vs with
      | some (cs, _) => outOf cs = out
      | none => False
    | none => False
  | _ => False
theorem RetB.returns {own : List (Nat × TypeId × Nat)} {rs : List IR} {out : V} {e : Ex} {st : St} (h : RetB own rs out e st) : Returns rs out e st := by
  unfold RetB at h
  have key : (match resVs st rs with
    | some vs => match passAll st.obf own 0 vs with
      | some (cs, _) => outOf cs = out
      | none => False
    | none => False) → ∃ vs own cs u, resVs st rs = some vs ∧ passAll st.obf own 0 vs = some (cs, u) ∧ out = outOf cs := by
    intro h
    split at h
    · rename_i vs hv
      split at h
      · rename_i cs u hp
        exact ⟨vs, own, cs, u, hv, hp, h.symm⟩
      · exact h.elim
    · exact h.elim
  cases e <;> simp only at h <;> first | exact h.elim | exact ⟨by simp, key h⟩
theorem tcSI {f : FuncId} {fn : Func} {fi : IF} {args : List V} {out : V} (hf : P.funcs[f]? = some fn) (hok : callOk P f = true) (hc : compF P own fn = some fi) (hlen : args.length ≤ fi.nt) (hlen2 : args.length ≤ 64) (rown : List (Nat × TypeId × Nat))
    (h : SI P own fi.nt fi.body (init args) (RetB rown fi.rs out)) : TC P f args out :=
  TC_of_SI hf hok hc hlen hlen2 (h.mono fun _ _ => RetB.returns)
theorem tcW {f : FuncId} {fn : Func} {fi : IF} {args : List V} {out : V} (hf : P.funcs[f]? = some fn) (hok : callOk P f = true) (hc : compF P own fn = some fi) (hlen : args.length ≤ fi.nt) (hlen2 : args.length ≤ 64) (rown : List (Nat × TypeId × Nat))
    (h : W (TC P) fi.body (init args) (RetB rown fi.rs out)) : TC P f args out :=
  tcSI hf hok hc hlen hlen2 rown (W_SI (fun _ _ _ h => h) h)
end
end Go.Vk
