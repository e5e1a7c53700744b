/- Rules for walks: the predicate transformer, step by step. -/
import Derived.Test.YtbdohnigbnhjnaaVkFun
set_option linter.unusedSimpArgs false
set_option linter.unusedVariables false
set_option linter.unusedSectionVars false
namespace Go.Vk
variable {C : Con}

/-- What comes behind, by name. -/
def Kseq (C : Con) (b : IC) (Q : Ex → St → Prop) (e : Ex) (st : St) : Prop := match e with
  | .norm => W C b st Q
  | e => Q e st
def Kblk (id : Nat) (Q : Ex → St → Prop) (e : Ex) (st : St) : Prop := match e with
  | .ex i => if i = id then Q .norm st else Q (.ex i) st
  | e => Q e st
def Kloop (n : Nat) (ds : List Dir) (I : Nat → St → Prop) (m : Nat) (Q : Ex → St → Prop) (e : Ex) (st : St) : Prop := match e with
  | .norm => ∃ m' st0, m' < m ∧ norm n ds st = some st0 ∧ I m' st0
  | e => Q e st
def Wr (C : Con) (Q : Ex → St → Prop) (ops : List OpI) (st : St) : Prop := Wops C (Q .norm) (fun v st => Q (.pan v) st) ops st
def Ev (C : Con) (Q : Ex → St → Prop) (r : List OpI) (d : Option Nat) (st : St) (x : Option (V × Upd)) : Prop := match x with
  | some (v, u) => Wr C Q r (st.step d v u)
  | none => False
def Wg (C : Con) (Q : Ex → St → Prop) (r : List OpI) (io : OpI) (want : Bool) (st : St) (x : V) : Prop := match x with
  | .d (.bool b) => if b = want then W1 C st io (Wops C (Q .norm) (fun v st => Q (.pan v) st) r) (fun v st => Q (.pan v) st) else Wr C Q r (st.step io.d (.tup []) [])
  | .tup [] => Wr C Q r (st.step io.d (.tup []) [])
  | _ => False
def Wcall (C : Con) (Q : Ex → St → Prop) (r : List OpI) (d : Option Nat) (f : FuncId) (st : St) (x : Option (List V × Upd)) : Prop := match x with
  | some (cargs, u) => ∃ out, C f cargs out ∧ Wr C Q r (st.step d (recv st.nx out).1 (u ++ (recv st.nx out).2))
  | none => False
def Wcv (C : Con) (Q : Ex → St → Prop) (r : List OpI) (d : Option Nat) (xs : List V) (st : St) (x : V) : Prop := match x with
  | .fn f caps => ∃ ow, Wcall C Q r d f st (passAll st.obf ow 0 (xs ++ caps))
  | _ => False
def Winv2 (C : Con) (Q : Ex → St → Prop) (r : List OpI) (d : Option Nat) (xs : List V) (y : D) (st : St) (o : Option FuncId) : Prop := match o with
  | some f => Wcall C Q r d f st (passAll st.obf [] 0 (ifV y :: xs))
  | none => False
def Winv (C : Con) (Q : Ex → St → Prop) (r : List OpI) (d : Option Nat) (ms : List (Nat × FuncId)) (xs : List V) (st : St) (x : V) : Prop := match x with
  | .d (.iface t y) => Winv2 C Q r d xs y st (aget t ms)
  | _ => False
def Wcond (C : Con) (Q : Ex → St → Prop) (a b : IC) (st : St) (x : V) : Prop := match x with
  | .d (.bool t) => if t = true then W C a st Q else W C b st Q
  | _ => False
def Wnil (C : Con) (Q : Ex → St → Prop) (r : List OpI) (d : Option Nat) (neg : Bool) (st : St) (x : Option (Nat × List D)) : Prop := match x with
  | some (_, cs) => ∀ b : Bool, (b = true → cs = []) → Wr C Q r (st.step d (.d (.bool (neg != b))) [])
  | none => False
def Wpan (Q : Ex → St → Prop) (st : St) (x : V) : Prop := match x with
  | .d (.iface t v) => Q (.pan (.iface t v)) st
  | _ => False

section
variable (Q : Ex → St → Prop) (r : List OpI) (d : Option Nat) (st : St) (v : V) (u : Upd) (bf : Nat) (sl : List (Nat × V)) (ob : List (Nat × Ob)) (nx : Nat)
theorem W_skip : W C .skip st Q = Q .norm st := _root_.id rfl
theorem W_reg (ops : List OpI) : W C (.reg false ops) st Q = Wr C Q ops st := _root_.id rfl
theorem W_seq (a b : IC) : W C (.seq a b) st Q = W C a st (Kseq C b Q) := _root_.id rfl
theorem W_cond (c : X) (a b : IC) : W C (.cond c a b) st Q = Wcond C Q a b st (st.val c) := _root_.id rfl
theorem W_block (id : Nat) (a : IC) : W C (.block id a) st Q = W C a st (Kblk id Q) := by
  simp only [W]
  congr 1
theorem W_exit (id : Nat) : W C (.exit id) st Q = Q (.ex id) st := _root_.id rfl
theorem W_label (id : Nat) : W C (.label id) st Q = Q .norm st := _root_.id rfl
theorem W_goto (id : Nat) : W C (.goto id) st Q = Q (.go id) st := _root_.id rfl
theorem W_ret : W C .ret st Q = Q .ret st := _root_.id rfl
theorem Kseq_norm (b : IC) : Kseq C b Q .norm st = W C b st Q := _root_.id rfl
theorem Kseq_ret (b : IC) : Kseq C b Q .ret st = Q .ret st := _root_.id rfl
theorem Kseq_ex (b : IC) (i : Nat) : Kseq C b Q (.ex i) st = Q (.ex i) st := _root_.id rfl
theorem Kseq_go (b : IC) (i : Nat) : Kseq C b Q (.go i) st = Q (.go i) st := _root_.id rfl
theorem Kseq_pan (b : IC) (x : D) : Kseq C b Q (.pan x) st = Q (.pan x) st := _root_.id rfl
theorem Kblk_norm (id : Nat) : Kblk id Q .norm st = Q .norm st := _root_.id rfl
theorem Kblk_ret (id : Nat) : Kblk id Q .ret st = Q .ret st := _root_.id rfl
theorem Kblk_ex (id i : Nat) : Kblk id Q (.ex i) st = if i = id then Q .norm st else Q (.ex i) st := _root_.id rfl
theorem Kblk_go (id i : Nat) : Kblk id Q (.go i) st = Q (.go i) st := _root_.id rfl
theorem Kblk_pan (id : Nat) (x : D) : Kblk id Q (.pan x) st = Q (.pan x) st := _root_.id rfl
variable (n m : Nat) (ds : List Dir) (I : Nat → St → Prop)
theorem Kloop_norm : Kloop n ds I m Q .norm st = ∃ m' st0, m' < m ∧ norm n ds st = some st0 ∧ I m' st0 := _root_.id rfl
theorem Kloop_ret : Kloop n ds I m Q .ret st = Q .ret st := _root_.id rfl
theorem Kloop_ex (i : Nat) : Kloop n ds I m Q (.ex i) st = Q (.ex i) st := _root_.id rfl
theorem Kloop_go (i : Nat) : Kloop n ds I m Q (.go i) st = Q (.go i) st := _root_.id rfl
theorem Kloop_pan (x : D) : Kloop n ds I m Q (.pan x) st = Q (.pan x) st := _root_.id rfl
/-- A loop, by its invariant. -/
theorem W_loop {Q : Ex → St → Prop} {st : St} {a : IC} (n : Nat) (ds : List Dir) (I : Nat → St → Prop) (hn : 64 ≤ n) (m : Nat) (st0 : St) (h0 : norm n ds st = some st0) (hI : I m st0)
    (hb : ∀ m st, I m st → W C a st (Kloop n ds I m Q)) : W C (.loop a) st Q := by
  refine ⟨n, ds, I, hn, ⟨m, st0, h0, hI⟩, fun m st h => ?_⟩
  have := hb m st h
  have e : Kloop n ds I m Q = fun e st' => match e with
        | .norm => ∃ m' st0, m' < m ∧ norm n ds st' = some st0 ∧ I m' st0
        | e => Q e st' := by
    funext e st'
    cases e <;> rfl
  rw [e] at this
  exact this
theorem Wcond_bool (a b : IC) (t : Bool) : Wcond C Q a b st (.d (.bool t)) = if t = true then W C a st Q else W C b st Q := _root_.id rfl
theorem Wr_nil : Wr C Q [] st = Q .norm st := _root_.id rfl
theorem Wr_g (s : Nat) (want : Bool) (op : IOp) : Wr C Q (⟨d, some (s, want), op, bf⟩ :: r) st = Wg C Q r ⟨d, some (s, want), op, bf⟩ want st (st.get s) := by
  unfold Wr Wops Wg
  rfl
theorem Wg_bool (s : Nat) (want b : Bool) (op : IOp) : Wg C Q r ⟨d, some (s, want), op, bf⟩ want st (.d (.bool b)) = if b = want then Wr C Q (⟨d, none, op, bf⟩ :: r) st else Wr C Q r (st.step d (.tup []) []) := _root_.id rfl
theorem Wg_skip (io : OpI) (want : Bool) : Wg C Q r io want st (.tup []) = Wr C Q r (st.step io.d (.tup []) []) := _root_.id rfl
-- guards, told
theorem Wg_11 (s : Option (Nat × Bool)) (op : IOp) : Wg C Q r ⟨d, s, op, bf⟩ true st (.d (.bool true)) = Wr C Q (⟨d, none, op, bf⟩ :: r) st := _root_.id rfl
theorem Wg_00 (s : Option (Nat × Bool)) (op : IOp) : Wg C Q r ⟨d, s, op, bf⟩ false st (.d (.bool false)) = Wr C Q (⟨d, none, op, bf⟩ :: r) st := _root_.id rfl
theorem Wg_10 (s : Option (Nat × Bool)) (op : IOp) : Wg C Q r ⟨d, s, op, bf⟩ true st (.d (.bool false)) = Wr C Q r (st.step d (.tup []) []) := _root_.id rfl
theorem Wg_01 (s : Option (Nat × Bool)) (op : IOp) : Wg C Q r ⟨d, s, op, bf⟩ false st (.d (.bool true)) = Wr C Q r (st.step d (.tup []) []) := _root_.id rfl
theorem Wcond_t (a b : IC) : Wcond C Q a b st (.d (.bool true)) = W C a st Q := _root_.id rfl
theorem Wcond_f (a b : IC) : Wcond C Q a b st (.d (.bool false)) = W C b st Q := _root_.id rfl
theorem Kblk_self (i : Nat) : Kblk i Q (.ex i) st = Q .norm st := by simp [Kblk]
theorem Kblk_ne (id i : Nat) (h : (i == id) = false) : Kblk id Q (.ex i) st = Q (.ex i) st := by
  have : ¬ i = id := by simpa using h
  simp [Kblk, this]
theorem Wr_call (f : FuncId) (own : List (Nat × TypeId × Nat)) (xs : List X) : Wr C Q (⟨d, none, .call f own xs, bf⟩ :: r) st = Wcall C Q r d f st (passAll st.obf own 0 (xs.map st.val)) := _root_.id rfl
theorem Wr_callv (x : X) (xs : List X) : Wr C Q (⟨d, none, .callv x xs, bf⟩ :: r) st = Wcv C Q r d (xs.map st.val) st (st.val x) := _root_.id rfl
theorem Wr_inv (x : X) (ms : List (Nat × FuncId)) (xs : List X) : Wr C Q (⟨d, none, .inv x ms xs, bf⟩ :: r) st = Winv C Q r d ms (xs.map st.val) st (st.val x) := by
  unfold Wr Wops W1 Winv Winv2 Wcall
  rfl
theorem Wr_panic (x : X) : Wr C Q (⟨d, none, .panic x, bf⟩ :: r) st = Wpan Q st (st.val x) := _root_.id rfl
theorem Wr_isnil (neg : Bool) (x : X) : Wr C Q (⟨d, none, .isnil neg x, bf⟩ :: r) st = Wnil C Q r d neg st ((st.val x).sliceOf st.obf) := _root_.id rfl
def IOp.plain : IOp → Bool
  | .call .. | .callv .. | .inv .. | .panic _ | .isnil .. => false
  | _ => true
theorem pl_mv : ∀ a0, IOp.plain (.mv a0) = true := fun _ => rfl
theorem pl_pick : ∀ a0 a1 a2, IOp.plain (.pick a0 a1 a2) = true := fun _ _ _ => rfl
theorem pl_box : ∀ a0, IOp.plain (.box a0) = true := fun _ => rfl
theorem pl_build : ∀ a0 a1, IOp.plain (.build a0 a1) = true := fun _ _ => rfl
theorem pl_bsl : ∀ a0 a1 a2 a3 a4, IOp.plain (.bsl a0 a1 a2 a3 a4) = true := fun _ _ _ _ _ => rfl
theorem pl_ld : ∀ a0 a1, IOp.plain (.ld a0 a1) = true := fun _ _ => rfl
theorem pl_st : ∀ a0 a1 a2, IOp.plain (.st a0 a1 a2) = true := fun _ _ _ => rfl
theorem pl_nilc : ∀ a0, IOp.plain (.nilc a0) = true := fun _ => rfl
theorem pl_bin : ∀ a0 a1 a2, IOp.plain (.bin a0 a1 a2) = true := fun _ _ _ => rfl
theorem pl_eqb : ∀ a0 a1 a2, IOp.plain (.eqb a0 a1 a2) = true := fun _ _ _ => rfl
theorem pl_eq : ∀ a0 a1 a2 a3, IOp.plain (.eq a0 a1 a2 a3) = true := fun _ _ _ _ => rfl
theorem pl_eqn : ∀ a0 a1, IOp.plain (.eqn a0 a1) = true := fun _ _ => rfl
theorem pl_un : ∀ a0 a1, IOp.plain (.un a0 a1) = true := fun _ _ => rfl
theorem pl_cvi : ∀ a0 a1, IOp.plain (.cvi a0 a1) = true := fun _ _ => rfl
theorem pl_cvs : ∀ a0, IOp.plain (.cvs a0) = true := fun _ => rfl
theorem pl_s2b : ∀ a0, IOp.plain (.s2b a0) = true := fun _ => rfl
theorem pl_b2s : ∀ a0, IOp.plain (.b2s a0) = true := fun _ => rfl
theorem pl_mki : ∀ a0 a1, IOp.plain (.mki a0 a1) = true := fun _ _ => rfl
theorem pl_mkf : ∀ a0 a1, IOp.plain (.mkf a0 a1) = true := fun _ _ => rfl
theorem pl_mks : ∀ a0 a1 a2 a3 a4 a5, IOp.plain (.mks a0 a1 a2 a3 a4 a5) = true := fun _ _ _ _ _ _ => rfl
theorem pl_sl : ∀ a0 a1 a2 a3 a4, IOp.plain (.sl a0 a1 a2 a3 a4) = true := fun _ _ _ _ _ => rfl
theorem pl_sls : ∀ a0 a1 a2, IOp.plain (.sls a0 a1 a2) = true := fun _ _ _ => rfl
theorem pl_fa : ∀ a0 a1, IOp.plain (.fa a0 a1) = true := fun _ _ => rfl
theorem pl_fld : ∀ a0 a1 a2, IOp.plain (.fld a0 a1 a2) = true := fun _ _ _ => rfl
theorem pl_ia : ∀ a0 a1 a2, IOp.plain (.ia a0 a1 a2) = true := fun _ _ _ => rfl
theorem pl_iaA : ∀ a0 a1 a2 a3, IOp.plain (.iaA a0 a1 a2 a3) = true := fun _ _ _ _ => rfl
theorem pl_ix : ∀ a0 a1 a2 a3 a4, IOp.plain (.ix a0 a1 a2 a3 a4) = true := fun _ _ _ _ _ => rfl
theorem pl_ixs : ∀ a0 a1, IOp.plain (.ixs a0 a1) = true := fun _ _ => rfl
theorem pl_ta : ∀ a0 a1 a2, IOp.plain (.ta a0 a1 a2) = true := fun _ _ _ => rfl
theorem pl_ex : ∀ a0 a1, IOp.plain (.ex a0 a1) = true := fun _ _ => rfl
theorem pl_len : ∀ a0, IOp.plain (.len a0) = true := fun _ => rfl
theorem pl_lens : ∀ a0, IOp.plain (.lens a0) = true := fun _ => rfl
theorem pl_mn : ∀ a0, IOp.plain (.mn a0) = true := fun _ => rfl
theorem pl_mx : ∀ a0, IOp.plain (.mx a0) = true := fun _ => rfl
theorem pl_app : ∀ a0 a1 a2 a3 a4, IOp.plain (.app a0 a1 a2 a3 a4) = true := fun _ _ _ _ _ => rfl
theorem pl_apps : ∀ a0 a1 a2, IOp.plain (.apps a0 a1 a2) = true := fun _ _ _ => rfl
theorem Wr_op (op : IOp) (h : op.plain = true) : Wr C Q (⟨d, none, op, bf⟩ :: r) st = Ev C Q r d st (ev st.nx st.val st.obf op) := by
  unfold Wr Wops W1 Ev
  cases op <;> first | rfl | (simp [IOp.plain] at h)
theorem Ev_some : Ev C Q r d st (some (v, u)) = Wr C Q r (st.step d v u) := _root_.id rfl
theorem Wcv_fn (xs : List V) (f : FuncId) (caps : List V) : Wcv C Q r d xs st (.fn f caps) = ∃ ow, Wcall C Q r d f st (passAll st.obf ow 0 (xs ++ caps)) := _root_.id rfl
theorem Winv_if (ms : List (Nat × FuncId)) (xs : List V) (t : Nat) (y : D) : Winv C Q r d ms xs st (.d (.iface t y)) = Winv2 C Q r d xs y st (aget t ms) := _root_.id rfl
theorem Winv2_some (xs : List V) (y : D) (f : FuncId) : Winv2 C Q r d xs y st (some f) = Wcall C Q r d f st (passAll st.obf [] 0 (ifV y :: xs)) := _root_.id rfl
theorem ifV_agg (cs : List D) : ifV (.agg cs) = .agg (cs.map .d) := _root_.id rfl
theorem ifV_int (k : IntKind) (n : Int) : ifV (.int k n) = .d (.int k n) := _root_.id rfl
theorem Wnil_some (neg : Bool) (l : Nat) (cs : List D) : Wnil C Q r d neg st (some (l, cs)) = ∀ b : Bool, (b = true → cs = []) → Wr C Q r (st.step d (.d (.bool (neg != b))) []) := _root_.id rfl
theorem Wpan_if (t : TypeId) (x : D) : Wpan Q st (.d (.iface t x)) = Q (.pan (.iface t x)) st := _root_.id rfl
/-- A call of which the contract is known. -/
theorem Wcall_some {Q : Ex → St → Prop} {r : List OpI} {d : Option Nat} {st : St} {u : Upd} {f : FuncId} {cargs : List V} {out : V} (h : C f cargs out) (K : Wr C Q r (st.step d (recv st.nx out).1 (u ++ (recv st.nx out).2))) : Wcall C Q r d f st (some (cargs, u)) := ⟨out, h, K⟩
/-- What an instruction may look into, slot by slot. -/
def rdl (st : St) (xs : List X) : List Nat := xs.flatMap fun x => (st.val x).ids
theorem rdl_nil : rdl st [] = [] := _root_.id rfl
theorem rdl_cons (x : X) (xs : List X) : rdl st (x :: xs) = (st.val x).ids ++ rdl st xs := _root_.id rfl
theorem aget_cons {α : Type} (k j : Nat) (x : α) (l : List (Nat × α)) : aget k ((j, x) :: l) = if j = k then some x else aget k l := _root_.id rfl
theorem aget_nil {α : Type} (k : Nat) : aget k ([] : List (Nat × α)) = none := _root_.id rfl
/-- The regions of an open order; the trace stands the other way round. -/
def Wd (C : Con) (Q : Ex → St → Prop) (all ops : List OpI) (tr : Trace) (st : St) : Prop := Wdraw C (fun tr st => meetOk (befOf all) tr = true ∧ Q .norm st) ops tr.reverse st
def Evd (C : Con) (Q : Ex → St → Prop) (all r : List OpI) (tr : Trace) (rd : List Nat) (d : Option Nat) (st : St) (x : Option (V × Upd)) : Prop := match x with
  | some (v, u) => Wd C Q all r ((rd, u.map (·.1)) :: tr) (st.step d v u)
  | none => False
def Wdcall (C : Con) (Q : Ex → St → Prop) (all r : List OpI) (tr : Trace) (rd : List Nat) (d : Option Nat) (f : FuncId) (st : St) (x : Option (List V × Upd)) : Prop := match x with
  | some (cargs, u) => ∃ out, C f cargs out ∧ Wd C Q all r ((rd, (u ++ (recv st.nx out).2).map (·.1)) :: tr) (st.step d (recv st.nx out).1 (u ++ (recv st.nx out).2))
  | none => False
def Wdg (C : Con) (Q : Ex → St → Prop) (all r : List OpI) (tr : Trace) (io : OpI) (want : Bool) (st : St) (x : V) : Prop := match x with
  | .d (.bool b) => if b = want then Wd C Q all (⟨io.d, none, io.op, io.bef⟩ :: r) tr st else Wd C Q all r (([], []) :: tr) (st.step io.d (.tup []) [])
  | .tup [] => Wd C Q all r (([], []) :: tr) (st.step io.d (.tup []) [])
  | _ => False
theorem W_draw (ops : List OpI) : W C (.reg true ops) st Q = Wd C Q ops ops [] st := _root_.id rfl
theorem Wd_nil (all : List OpI) (tr : Trace) : Wd C Q all [] tr st = (meetOk (befOf all) tr.reverse = true ∧ Q .norm st) := _root_.id rfl
theorem Wd_op (all : List OpI) (tr : Trace) (op : IOp) (h : op.plain = true) : Wd C Q all (⟨d, none, op, bf⟩ :: r) tr st = Evd C Q all r tr (rdl st op.xs) d st (ev st.nx st.val st.obf op) := by
  unfold Wd Wdraw Wd1 Evd
  simp only [Wd, List.reverse_cons]
  cases op <;> first | rfl | (simp [IOp.plain] at h)
theorem Wd_call (all : List OpI) (tr : Trace) (f : FuncId) (own : List (Nat × TypeId × Nat)) (xs : List X) : Wd C Q all (⟨d, none, .call f own xs, bf⟩ :: r) tr st = Wdcall C Q all r tr (rdl st xs) d f st (passAll st.obf own 0 (xs.map st.val)) := by
  unfold Wd Wdraw Wd1 Wdcall
  simp only [Wd, List.reverse_cons]
  rfl
def Wdcv (C : Con) (Q : Ex → St → Prop) (all r : List OpI) (tr : Trace) (rd : List Nat) (d : Option Nat) (xs : List V) (st : St) (x : V) : Prop := match x with
  | .fn f caps => ∃ ow, Wdcall C Q all r tr rd d f st (passAll st.obf ow 0 (xs ++ caps))
  | _ => False
def Wdinv2 (C : Con) (Q : Ex → St → Prop) (all r : List OpI) (tr : Trace) (rd : List Nat) (d : Option Nat) (xs : List V) (y : D) (st : St) (o : Option FuncId) : Prop := match o with
  | some f => Wdcall C Q all r tr rd d f st (passAll st.obf [] 0 (ifV y :: xs))
  | none => False
def Wdinv (C : Con) (Q : Ex → St → Prop) (all r : List OpI) (tr : Trace) (rd : List Nat) (d : Option Nat) (ms : List (Nat × FuncId)) (xs : List V) (st : St) (x : V) : Prop := match x with
  | .d (.iface t y) => Wdinv2 C Q all r tr rd d xs y st (aget t ms)
  | _ => False
theorem Wd_callv (all : List OpI) (tr : Trace) (x : X) (xs : List X) : Wd C Q all (⟨d, none, .callv x xs, bf⟩ :: r) tr st = Wdcv C Q all r tr (rdl st (x :: xs)) d (xs.map st.val) st (st.val x) := by
  unfold Wd Wdraw Wd1 Wdcv Wdcall
  simp only [Wd, List.reverse_cons]
  rfl
theorem Wd_inv (all : List OpI) (tr : Trace) (x : X) (ms : List (Nat × FuncId)) (xs : List X) : Wd C Q all (⟨d, none, .inv x ms xs, bf⟩ :: r) tr st = Wdinv C Q all r tr (rdl st (x :: xs)) d ms (xs.map st.val) st (st.val x) := by
  unfold Wd Wdraw Wd1 Wdinv Wdinv2 Wdcall
  simp only [Wd, List.reverse_cons]
  rfl
theorem Wdcv_fn (all : List OpI) (tr : Trace) (rd : List Nat) (xs : List V) (f : FuncId) (caps : List V) : Wdcv C Q all r tr rd d xs st (.fn f caps) = ∃ ow, Wdcall C Q all r tr rd d f st (passAll st.obf ow 0 (xs ++ caps)) := _root_.id rfl
theorem Wdinv_if (all : List OpI) (tr : Trace) (rd : List Nat) (ms : List (Nat × FuncId)) (xs : List V) (t : Nat) (y : D) : Wdinv C Q all r tr rd d ms xs st (.d (.iface t y)) = Wdinv2 C Q all r tr rd d xs y st (aget t ms) := _root_.id rfl
theorem Wdinv2_some (all : List OpI) (tr : Trace) (rd : List Nat) (xs : List V) (y : D) (f : FuncId) : Wdinv2 C Q all r tr rd d xs y st (some f) = Wdcall C Q all r tr rd d f st (passAll st.obf [] 0 (ifV y :: xs)) := _root_.id rfl
theorem Wd_g (all : List OpI) (tr : Trace) (s : Nat) (want : Bool) (op : IOp) : Wd C Q all (⟨d, some (s, want), op, bf⟩ :: r) tr st = Wdg C Q all r tr ⟨d, some (s, want), op, bf⟩ want st (st.get s) := by
  unfold Wd Wdraw Wdg
  simp only [Wd, List.reverse_cons]
  rfl
theorem Wdg_bool (all : List OpI) (tr : Trace) (io : OpI) (want b : Bool) : Wdg C Q all r tr io want st (.d (.bool b)) = if b = want then Wd C Q all (⟨io.d, none, io.op, io.bef⟩ :: r) tr st else Wd C Q all r (([], []) :: tr) (st.step io.d (.tup []) []) := _root_.id rfl
theorem Wdg_11 (all : List OpI) (tr : Trace) (io : OpI) : Wdg C Q all r tr io true st (.d (.bool true)) = Wd C Q all (⟨io.d, none, io.op, io.bef⟩ :: r) tr st := _root_.id rfl
theorem Wdg_00 (all : List OpI) (tr : Trace) (io : OpI) : Wdg C Q all r tr io false st (.d (.bool false)) = Wd C Q all (⟨io.d, none, io.op, io.bef⟩ :: r) tr st := _root_.id rfl
theorem Wdg_10 (all : List OpI) (tr : Trace) (io : OpI) : Wdg C Q all r tr io true st (.d (.bool false)) = Wd C Q all r (([], []) :: tr) (st.step io.d (.tup []) []) := _root_.id rfl
theorem Wdg_01 (all : List OpI) (tr : Trace) (io : OpI) : Wdg C Q all r tr io false st (.d (.bool true)) = Wd C Q all r (([], []) :: tr) (st.step io.d (.tup []) []) := _root_.id rfl
theorem Wdg_skip (all : List OpI) (tr : Trace) (io : OpI) (want : Bool) : Wdg C Q all r tr io want st (.tup []) = Wd C Q all r (([], []) :: tr) (st.step io.d (.tup []) []) := _root_.id rfl
theorem Evd_some (all : List OpI) (tr : Trace) (rd : List Nat) : Evd C Q all r tr rd d st (some (v, u)) = Wd C Q all r ((rd, u.map (·.1)) :: tr) (st.step d v u) := _root_.id rfl
/-- A call of which the contract is known. -/
theorem Wdcall_some {Q : Ex → St → Prop} {r : List OpI} {d : Option Nat} {st : St} {u : Upd} {all : List OpI} {tr : Trace} {rd : List Nat} {f : FuncId} {cargs : List V} {out : V} (h : C f cargs out) (K : Wd C Q all r ((rd, (u ++ (recv st.nx out).2).map (·.1)) :: tr) (st.step d (recv st.nx out).1 (u ++ (recv st.nx out).2))) : Wdcall C Q all r tr rd d f st (some (cargs, u)) := ⟨out, h, K⟩
theorem Wcall_at {Q : Ex → St → Prop} {r : List OpI} {d : Option Nat} {st : St} {u : Upd} {f : FuncId} {cargs cargs' : List V} {out : V} (h : C f cargs' out) (e : cargs = cargs') (K : Wr C Q r (st.step d (recv st.nx out).1 (u ++ (recv st.nx out).2))) : Wcall C Q r d f st (some (cargs, u)) := ⟨out, e ▸ h, K⟩
theorem Wdcall_at {Q : Ex → St → Prop} {r : List OpI} {d : Option Nat} {st : St} {u : Upd} {all : List OpI} {tr : Trace} {rd : List Nat} {f : FuncId} {cargs cargs' : List V} {out : V} (h : C f cargs' out) (e : cargs = cargs') (K : Wd C Q all r ((rd, (u ++ (recv st.nx out).2).map (·.1)) :: tr) (st.step d (recv st.nx out).1 (u ++ (recv st.nx out).2))) : Wdcall C Q all r tr rd d f st (some (cargs, u)) := ⟨out, e ▸ h, K⟩
/-- A guard, a condition that is not known: both ways. -/
theorem Wg_split {Q : Ex → St → Prop} {r : List OpI} {io : OpI} {want : Bool} {st : St} {e : Bool} (h1 : e = true → Wg C Q r io want st (.d (.bool true))) (h2 : e = false → Wg C Q r io want st (.d (.bool false))) : Wg C Q r io want st (.d (.bool e)) := by
  cases e
  · exact h2 rfl
  · exact h1 rfl
theorem Wdg_split {Q : Ex → St → Prop} {all r : List OpI} {tr : Trace} {io : OpI} {want : Bool} {st : St} {e : Bool} (h1 : e = true → Wdg C Q all r tr io want st (.d (.bool true))) (h2 : e = false → Wdg C Q all r tr io want st (.d (.bool false))) : Wdg C Q all r tr io want st (.d (.bool e)) := by
  cases e
  · exact h2 rfl
  · exact h1 rfl
theorem Wcond_split {Q : Ex → St → Prop} {a b : IC} {st : St} {e : Bool} (h1 : e = true → W C a st Q) (h2 : e = false → W C b st Q) : Wcond C Q a b st (.d (.bool e)) := by
  cases e
  · exact h2 rfl
  · exact h1 rfl
theorem Ev_ite {Q : Ex → St → Prop} {r : List OpI} {d : Option Nat} {st : St} {c : Prop} [Decidable c] {x y : Option (V × Upd)} (h : c) (K : Ev C Q r d st x) : Ev C Q r d st (if c then x else y) := by
  rw [if_pos h]; exact K
theorem Evd_ite {Q : Ex → St → Prop} {all r : List OpI} {tr : Trace} {rd : List Nat} {d : Option Nat} {st : St} {c : Prop} [Decidable c] {x y : Option (V × Upd)} (h : c) (K : Evd C Q all r tr rd d st x) : Evd C Q all r tr rd d st (if c then x else y) := by
  rw [if_pos h]; exact K
/-- A function value that captures nothing. -/
theorem Wcv_ow {Q : Ex → St → Prop} {r : List OpI} {d : Option Nat} {xs caps : List V} {st : St} {f : FuncId} (ow : List (Nat × TypeId × Nat)) (K : Wcall C Q r d f st (passAll st.obf ow 0 (xs ++ caps))) : ∃ ow, Wcall C Q r d f st (passAll st.obf ow 0 (xs ++ caps)) := ⟨ow, K⟩
theorem step_some (s : Nat) : St.step ⟨sl, ob, nx⟩ (some s) v u = ⟨(s, v) :: sl, upd u ob, nx + 8⟩ := _root_.id rfl
theorem step_none : St.step ⟨sl, ob, nx⟩ none v u = ⟨sl, upd u ob, nx + 8⟩ := _root_.id rfl
theorem val_t (s : Nat) : St.val ⟨sl, ob, nx⟩ (.t s) = (aget s sl).getD .dead := _root_.id rfl
theorem val_c (x : V) : St.val st (.c x) = x := _root_.id rfl
theorem get_mk (s : Nat) : St.get ⟨sl, ob, nx⟩ s = (aget s sl).getD .dead := _root_.id rfl
theorem obf_mk (t : Nat) : St.obf ⟨sl, ob, nx⟩ t = aget t ob := _root_.id rfl
end

/-! a scope with one jump forward -/
def KseqS (P : Program) (own : FuncId → List (Nat × TypeId × Nat)) (n : Nat) (b : IC) (Q : Ex → St → Prop) (e : Ex) (st : St) : Prop := match e with
  | .norm => SI P own n b st Q
  | e => Q e st
def Kend (Q : Ex → St → Prop) (e : Ex) (st : St) : Prop := match e with
  | .go _ => False
  | e => Q e st
def KscS (C : Con) (l : Nat) (rest : IC) (Q : Ex → St → Prop) (e : Ex) (st : St) : Prop := match e with
  | .go l' => l' = l ∧ W C rest st (Kend Q)
  | e => Q e st
section
variable {P : Program} {own : FuncId → List (Nat × TypeId × Nat)} {n : Nat} {b rest : IC} {Q : Ex → St → Prop} {st : St} {l : Nat}
theorem KseqS_norm : KseqS P own n b Q .norm st = SI P own n b st Q := _root_.id rfl
theorem KseqS_ret : KseqS P own n b Q .ret st = Q .ret st := _root_.id rfl
theorem KseqS_ex (i : Nat) : KseqS P own n b Q (.ex i) st = Q (.ex i) st := _root_.id rfl
theorem KseqS_pan (x : D) : KseqS P own n b Q (.pan x) st = Q (.pan x) st := _root_.id rfl
theorem Kend_norm : Kend Q .norm st = Q .norm st := _root_.id rfl
theorem Kend_ret : Kend Q .ret st = Q .ret st := _root_.id rfl
theorem Kend_ex (i : Nat) : Kend Q (.ex i) st = Q (.ex i) st := _root_.id rfl
theorem KscS_norm : KscS C l rest Q .norm st = Q .norm st := _root_.id rfl
theorem KscS_ret : KscS C l rest Q .ret st = Q .ret st := _root_.id rfl
theorem KscS_ex (i : Nat) : KscS C l rest Q (.ex i) st = Q (.ex i) st := _root_.id rfl
theorem KscS_go : KscS C l rest Q (.go l) st = W C rest st (Kend Q) := by simp [KscS]
theorem SI_seqW {a : IC} (h : W (TC P) a st (KseqS P own n b Q)) : SI P own n (.seq a b) st Q := by
  refine SI.seq ((W_SI (C := TC P) (fun _ _ _ h => h) h).mono ?_)
  intro e st' he
  cases e <;> exact he
theorem SI_scope1 {ic : IC} (l : Nat) (hl : ic.lab l = some rest) (h : W (TC P) ic st (KscS (TC P) l rest Q)) : SI P own n (.scope ic) st Q := by
  intro c hc g0 w0 ob0 g w a hs hst
  obtain ⟨x, rfl, h1⟩ := comp_scope hc
  obtain ⟨rc, h2, h3⟩ := (comp_lab x ic l h1).2 rest hl
  refine wp_scope_ghost l (fun _ a w => ∃ st g, W (TC P) rest st (Kend Q) ∧ Sim g w n a st.get st.obf (below st.nx) ∧ Step g0 w0 ob0 (below 64) g w st.obf (below st.nx)) h2 ?_ ?_
  · refine wp_mono (W_SI (C := TC P) (fun _ _ _ h => h) h x h1 g0 w0 ob0 g w a hs hst) fun e a' w' hq => ?_
    obtain ⟨e', st', g', q1, q2, q3, q4⟩ := hq
    cases e' <;> cases e <;> simp only [ExRel] at q2 <;> simp only [Exit.jump] <;> first | exact q2.elim | skip
    case go.goto i j =>
      subst q2
      exact ⟨q1.1, 0, st', g', q1.2, q3, q4⟩
    all_goals exact ⟨_, st', g', q1, q2, q3, q4⟩
  · rintro m a w ⟨st1, g1, hJ1, hs1, hst1⟩
    refine wp_mono (W_SI (C := TC P) (fun _ _ _ h => h) hJ1 rc h3 g0 w0 ob0 g1 w a hs1 hst1) fun e a' w' hq => ?_
    obtain ⟨e', st', g', q1, q2, q3, q4⟩ := hq
    cases e' <;> cases e <;> simp only [ExRel] at q2 <;> simp only [Exit.jump] <;> first | exact q2.elim | skip
    case go.goto i j => exact q1.elim
    all_goals exact ⟨_, st', g', q1, q2, q3, q4⟩
end
/-! a scope with a label that is jumped back to -/
def KscA (k : Nat) (ds : List Dir) (J : Nat → St → Prop) (e : Ex) (st : St) : Prop := match e with
  | .norm => ∃ m st0, norm k ds st = some st0 ∧ J m st0
  | _ => False
def KscB (l k : Nat) (ds : List Dir) (J : Nat → St → Prop) (m : Nat) (Q : Ex → St → Prop) (e : Ex) (st : St) : Prop := match e with
  | .go l' => l' = l ∧ ∃ m' st0, m' < m ∧ norm k ds st = some st0 ∧ J m' st0
  | e => Q e st
section
variable {P : Program} {own : FuncId → List (Nat × TypeId × Nat)} {n : Nat} {b rest : IC} {Q : Ex → St → Prop} {st : St} {l k m : Nat} {ds : List Dir} {J : Nat → St → Prop}
theorem KscA_norm : KscA k ds J .norm st = ∃ m st0, norm k ds st = some st0 ∧ J m st0 := _root_.id rfl
theorem KscB_norm : KscB l k ds J m Q .norm st = Q .norm st := _root_.id rfl
theorem KscB_ret : KscB l k ds J m Q .ret st = Q .ret st := _root_.id rfl
theorem KscB_ex (i : Nat) : KscB l k ds J m Q (.ex i) st = Q (.ex i) st := _root_.id rfl
theorem KscB_pan (x : D) : KscB l k ds J m Q (.pan x) st = Q (.pan x) st := _root_.id rfl
theorem KscB_go : KscB l k ds J m Q (.go l) st = ∃ m' st0, m' < m ∧ norm k ds st = some st0 ∧ J m' st0 := by simp [KscB]
theorem SI.norm {ic : IC} {st0 : St} (hk : 64 ≤ k) (hn : norm k ds st = some st0) (h : SI P own n ic st0 Q) : SI P own n ic st Q := fun c hc g0 w0 ob0 g w a hs hst => by
  obtain ⟨g', hs', hst'⟩ := norm_sound hk hs hn hst
  exact h c hc g0 w0 ob0 g' w a hs' hst'
theorem SI_scopeB {a : IC} (l k : Nat) (ds : List Dir) (J : Nat → St → Prop) (hk : 64 ≤ k) (hl : a.lab l = none) (first : W (TC P) a st (KscA k ds J))
    (pass : ∀ m st, J m st → W (TC P) b st (KscB l k ds J m Q)) : SI P own n (.scope (.seq a (.seq (.label l) b))) st Q := by
  have hlab : (IC.seq a (.seq (.label l) b)).lab l = some (.seq .skip b) := by simp [IC.lab, hl]
  have hp : ∀ m st, J m st → SI P own n b st (KscB l k ds J m Q) := fun m st h => W_SI (C := TC P) (fun _ _ _ h => h) (pass m st h)
  refine SI.scope l k ds J hk hlab ?_ ?_
  · refine SI.seq ((W_SI (C := TC P) (fun _ _ _ h => h) first).mono fun e st' he => ?_)
    cases e <;> simp only [KscA] at he
    obtain ⟨m, st0, h1, h2⟩ := he
    refine SI.seq ((W_SI (C := TC P) (fun _ _ _ h => h) (Q := fun e s => e = .norm ∧ s = st') (by simp [W])).mono fun e st2 he => ?_)
    obtain ⟨rfl, rfl⟩ := he
    refine SI.norm hk h1 ((hp m st0 h2).mono fun e st' he => ?_)
    cases e <;> simp only [KscB] at he <;> first | exact he | skip
    obtain ⟨e1, m', st2, _, e2, e3⟩ := he
    exact ⟨e1, m', st2, e2, e3⟩
  · intro m st h
    refine SI.seq ((W_SI (C := TC P) (fun _ _ _ h => h) (Q := fun e s => e = .norm ∧ s = st) (by simp [W])).mono fun e st2 he => ?_)
    obtain ⟨rfl, rfl⟩ := he
    refine (hp m _ h).mono fun e st' he => ?_
    cases e <;> exact he
end
theorem le_1 (n : Nat) : (1 ≤ n + 1) = True := by simp
theorem le_2 (n : Nat) : (2 ≤ n + 1 + 1) = True := by simp
theorem le_3 (n : Nat) : (3 ≤ n + 1 + 1 + 1) = True := by simp
theorem le_4 (n : Nat) : (4 ≤ n + 1 + 1 + 1 + 1) = True := by simp
theorem le_5 (n : Nat) : (5 ≤ n + 1 + 1 + 1 + 1 + 1) = True := by simp
theorem le_6 (n : Nat) : (6 ≤ n + 1 + 1 + 1 + 1 + 1 + 1) = True := by simp
theorem le_7 (n : Nat) : (7 ≤ n + 1 + 1 + 1 + 1 + 1 + 1 + 1) = True := by simp
theorem le_8 (n : Nat) : (8 ≤ n + 1 + 1 + 1 + 1 + 1 + 1 + 1 + 1) = True := by simp
theorem le_9 (n : Nat) : (9 ≤ n + 1 + 1 + 1 + 1 + 1 + 1 + 1 + 1 + 1) = True := by simp
theorem le_10 (n : Nat) : (10 ≤ n + 1 + 1 + 1 + 1 + 1 + 1 + 1 + 1 + 1 + 1) = True := by simp
theorem le_11 (n : Nat) : (11 ≤ n + 1 + 1 + 1 + 1 + 1 + 1 + 1 + 1 + 1 + 1 + 1) = True := by simp
theorem le_12 (n : Nat) : (12 ≤ n + 1 + 1 + 1 + 1 + 1 + 1 + 1 + 1 + 1 + 1 + 1 + 1) = True := by simp
theorem le_o0 (n : Nat) : (0 ≤ n) = True := by simp
theorem ck_bool (b : Bool) : V.cellOk (.d (.bool b)) = true := _root_.id rfl
theorem ck_int (k : IntKind) (n : Int) : V.cellOk (.d (.int k n)) = true := _root_.id rfl
theorem ck_str (n : List UInt8) : V.cellOk (.d (.str n)) = true := _root_.id rfl
theorem ck_slice (n : Nat) (l : List D) : V.cellOk (.d (.slice n l)) = true := _root_.id rfl
theorem ck_ni : V.cellOk (.d .nilIface) = true := _root_.id rfl
theorem ck_if (t : TypeId) (x : D) : V.cellOk (.d (.iface t x)) = true := _root_.id rfl
theorem ck_nils : V.cellOk .nils = true := _root_.id rfl
theorem ck_own (t n : Nat) : V.cellOk (.own t n) = true := _root_.id rfl
theorem nat_nn (n : Nat) : (0 ≤ (n : Int)) = True := by simp

def band (x y : Int) : Int := IntKind.i64.wrap (BitVec.ofInt IntKind.i64.bits x &&& BitVec.ofInt IntKind.i64.bits y).toNat
def bor (x y : Int) : Int := IntKind.i64.wrap (BitVec.ofInt IntKind.i64.bits x ||| BitVec.ofInt IntKind.i64.bits y).toNat
def w64 (x : Int) : Int := IntKind.i64.wrap x
theorem w64_id {x : Int} (h : -9223372036854775808 ≤ x) (h' : x < 9223372036854775808) : w64 x = x := by
  unfold w64 IntKind.wrap
  simp [IntKind.signed, IntKind.bits]
  omega
theorem w64_of {x : Int} (h : -9223372036854775808 ≤ x ∧ x < 9223372036854775808) : w64 x = x := w64_id h.1 h.2
section
variable (k : IntKind) (x y : Int) (a b : D) (s t : List UInt8)
theorem b_and : binD .and (.int .i64 x) (.int .i64 y) = some (.int .i64 (band x y)) := _root_.id rfl
theorem b_or : binD .or (.int .i64 x) (.int .i64 y) = some (.int .i64 (bor x y)) := _root_.id rfl
theorem b_add : binD .add (.int .i64 x) (.int .i64 y) = some (.int .i64 (w64 (x + y))) := _root_.id rfl
theorem b_sub : binD .sub (.int .i64 x) (.int .i64 y) = some (.int .i64 (w64 (x - y))) := _root_.id rfl
theorem b_mul : binD .mul (.int .i64 x) (.int .i64 y) = some (.int .i64 (w64 (x * y))) := _root_.id rfl
theorem b_rem : binD .rem (.int .i64 x) (.int .i64 y) = if y = 0 then none else some (.int .i64 (x.tmod y)) := _root_.id rfl
theorem b_eql : binD .eql (.int k x) (.int k y) = some (.bool (x == y)) := by simp [binD, isShift, intBin]
theorem b_neq : binD .neq (.int k x) (.int k y) = some (.bool (x != y)) := by simp [binD, isShift, intBin]
theorem b_lss : binD .lss (.int k x) (.int k y) = some (.bool (decide (x < y))) := by simp [binD, isShift, intBin]
theorem b_leq : binD .leq (.int k x) (.int k y) = some (.bool (decide (x ≤ y))) := by simp [binD, isShift, intBin]
theorem b_gtr : binD .gtr (.int k x) (.int k y) = some (.bool (decide (x > y))) := by simp [binD, isShift, intBin]
theorem b_geq : binD .geq (.int k x) (.int k y) = some (.bool (decide (x ≥ y))) := by simp [binD, isShift, intBin]
theorem b_seql : binD .eql (.str s) (.str t) = some (.bool (s == t)) := _root_.id rfl
theorem b_sneq : binD .neq (.str s) (.str t) = some (.bool (!(s == t))) := _root_.id rfl
theorem b_sadd : binD .add (.str s) (.str t) = if s.length + t.length ≤ 9223372036854775807 then some (.str (s ++ t)) else none := _root_.id rfl
theorem b_shr8 : binD .shr (.int .i64 x) (.int .u64 8) = some (.int .i64 (x.fdiv 256)) := _root_.id rfl
theorem b_shl8 : binD .shl (.int .i64 x) (.int .u64 8) = some (.int .i64 (w64 (x * 256))) := _root_.id rfl
end
end Go.Vk
