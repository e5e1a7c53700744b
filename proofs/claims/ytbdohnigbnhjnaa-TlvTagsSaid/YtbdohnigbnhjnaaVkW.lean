/- The walk over ideal states: what a function's text asks, computed. -/
import Derived.Test.YtbdohnigbnhjnaaVkEv
set_option linter.unusedSimpArgs false
set_option linter.unusedVariables false
set_option linter.unusedSectionVars false
namespace Go.Vk

def St.obf (st : St) : Gt := fun t => aget t st.ob
def St.val (st : St) : X → V
  | .t n => st.get n
  | .c v => v
def St.step (st : St) (d : Option Nat) (v : V) (u : Upd) : St :=
  { sl := match d with | some d => (d, v) :: st.sl | none => st.sl, ob := upd u st.ob, nx := st.nx + 8 }

/-! ### handing values over a call -/
def passV (ob : Gt) (own : Option (TypeId × Nat)) : V → Option (V × Upd)
  | .d (.agg _) => none
  | .d x => some (.d x, [])
  | .nils => match own with
    | none => some (.d (.slice 0 []), [])
    | some (e, sz) => if 0 < sz then some (.fresh false e sz 0 [], []) else none
  | .own t len =>
    match ob t with
    | some (.vec com e sz l cs) =>
      if l = len then
        match own with
        | some _ => some (.fresh com e sz len cs, [(t, none)])
        | none => some (.d (.slice len cs), [(t, some (.vec true e sz l cs))])
      else none
    | _ => none
  | .fn f [] => some (.fn f [], [])
  | .nilp => some (.nilp, [])
  | .nilfn => some (.nilfn, [])
  | .ptr t off =>
    match ob t with
    | some (.box cs) =>
      match datas cs with
      | some ds =>
        match own with
        | none => if off ≤ ds.length then some (.dptr (ds.drop off), [(t, some (.cbox ds))]) else none
        | some _ => if off = 0 then some (.fbox ds, [(t, none)]) else none
      | none => none
    | some (.cbox ds) =>
      match own with
      | none => if off ≤ ds.length then some (.dptr (ds.drop off), []) else none
      | some _ => none
    | _ => none
  | .dptr cs => some (.dptr cs, [])
  | .agg cs => match V.toDs ob cs with
    | some (ds, u) => some (.agg (ds.map .d), u)
    | none => none
  | _ => none
def passAll (ob : Gt) (own : List (Nat × TypeId × Nat)) (i : Nat) : List V → Option (List V × Upd)
  | [] => some ([], [])
  | v :: r =>
    match passV ob (aget i own) v with
    | some (c, u) => match passAll (updf u ob) own (i + 1) r with
      | some (cs, u') => some (c :: cs, u ++ u')
      | none => none
    | none => none
/-- What comes back: owned slices under new names. -/
def recvV (id : Nat) : V → V × Upd
  | .fresh com e sz len cs => (.own id len, [(id, some (.vec com e sz len cs))])
  | .fbox cs => (.ptr id 0, [(id, some (.box (cs.map .d)))])
  | v => (v, [])
def recvs (id : Nat) : List V → List V × Upd
  | [] => ([], [])
  | v :: r => ((recvV id v).1 :: (recvs (id + 1) r).1, (recvV id v).2 ++ (recvs (id + 1) r).2)
def recv (id : Nat) : V → V × Upd
  | .tup vs => if vs.length ≤ 8 then (.tup (recvs id vs).1, (recvs id vs).2) else (.dead, [])
  | v => recvV id v

inductive Ex where
  | norm
  | ex (id : Nat)
  | go (l : Nat)
  | ret
  | pan (v : D)
  deriving Inhabited

/-- What an interface holds, as a receiver. -/
def ifV : D → V
  | .agg cs => .agg (cs.map .d)
  | x => .d x

abbrev Con := FuncId → List V → V → Prop

def W1 (C : Con) (st : St) (io : OpI) (K : St → Prop) (E : D → St → Prop) : Prop :=
  match io.op with
  | .call f own xs =>
    match passAll st.obf own 0 (xs.map st.val) with
    | some (cargs, u) => ∃ out, C f cargs out ∧ K (st.step io.d (recv st.nx out).1 (u ++ (recv st.nx out).2))
    | none => False
  | .callv x xs =>
    match st.val x with
    | .fn f caps => ∃ ow,
      match passAll st.obf ow 0 (xs.map st.val ++ caps) with
      | some (cargs, u) => ∃ out, C f cargs out ∧ K (st.step io.d (recv st.nx out).1 (u ++ (recv st.nx out).2))
      | none => False
    | _ => False
  | .inv x ms xs =>
    match st.val x with
    | .d (.iface t y) =>
      match aget t ms with
      | some f =>
        match passAll st.obf [] 0 (ifV y :: xs.map st.val) with
        | some (cargs, u) => ∃ out, C f cargs out ∧ K (st.step io.d (recv st.nx out).1 (u ++ (recv st.nx out).2))
        | none => False
      | none => False
    | _ => False
  | .panic x =>
    match st.val x with
    | .d (.iface t v) => E (.iface t v) st
    | _ => False
  | .isnil neg x =>
    match (st.val x).sliceOf st.obf with
    | some (_, cs) => ∀ b : Bool, (b = true → cs = []) → K (st.step io.d (.d (.bool (neg != b))) [])
    | none => False
  | op =>
    match ev st.nx st.val st.obf op with
    | some (v, u) => K (st.step io.d v u)
    | none => False

def Wops (C : Con) (K : St → Prop) (E : D → St → Prop) : List OpI → St → Prop
  | [], st => K st
  | io :: r, st =>
    match io.g with
    | none => W1 C st io (Wops C K E r) E
    | some (s, want) =>
      match st.get s with
      | .d (.bool b) => if b = want then W1 C st io (Wops C K E r) E else Wops C K E r (st.step io.d (.tup []) [])
      | .tup [] => Wops C K E r (st.step io.d (.tup []) [])
      | _ => False

/-! regions whose order is open: in the order of the text, with a look at who meets whom -/
def V.ids0 : V → List Nat
  | .own t _ => [t]
  | .ptr b _ => [b]
  | _ => []
def V.ids1 : V → List Nat
  | .agg cs => cs.flatMap V.ids0
  | v => v.ids0
def V.ids : V → List Nat
  | .fn _ caps => caps.flatMap V.ids1
  | v => v.ids1
/-- What an instruction is given. -/
def IOp.xs : IOp → List X
  | .mv x | .box x | .ld _ x | .nilc x | .eqn _ x | .isnil _ x | .un _ x | .cvi _ x | .cvs x | .s2b x | .b2s x | .mki _ x | .fa x _ | .fld x _ _ | .ta _ _ x | .ex x _ | .len x | .lens x | .panic x => [x]
  | .pick c a b => [c, a, b]
  | .build _ ps => ps.map fun p => p.2.2
  | .bsl _ _ _ _ ps => ps.map fun p => p.2.2
  | .st _ x y | .bin _ x y | .eqb _ x y | .eq _ _ x y | .mks _ _ _ _ x y | .ia _ x y | .iaA _ _ x y | .ix _ _ _ x y | .ixs x y | .app _ _ _ x y | .apps _ x y => [x, y]
  | .mkf _ xs | .mn xs | .mx xs | .call _ _ xs => xs
  | .sl _ x a b c => x :: (a.toList ++ b.toList ++ c.toList)
  | .sls x a b => x :: (a.toList ++ b.toList)
  | .callv x xs => x :: xs
  | .inv x _ xs => x :: xs
/-- The objects that an instruction may look into. -/
def reads (val : X → V) (op : IOp) : List Nat := op.xs.flatMap fun x => (val x).ids
def X.slots : X → List Nat
  | .t n => [n]
  | .c _ => []
def OpI.looks (io : OpI) : List Nat := io.op.xs.flatMap X.slots ++ (match io.g with | some (s, _) => [s] | none => [])
def apartIO (x y : OpI) : Bool :=
  (match x.d with | some d => !y.looks.contains d && (match y.d with | some e => decide (e ≠ d) | none => true) | none => true) &&
  (match y.d with | some d => !x.looks.contains d | none => true)
abbrev Trace := List (List Nat × List Nat)
def disj (a b : List Nat) : Bool := a.all fun x => !b.contains x
/-- Two that may come in either order do not meet in an object. -/
def meetOk (bef : Nat → Nat → Bool) (tr : Trace) : Bool :=
  (List.range tr.length).all fun j => (List.range j).all fun i =>
    bef i j || (match tr[i]?, tr[j]? with
      | some (r, w), some (r', w') => disj w r' && disj w w' && disj r w'
      | _, _ => false)

def Wd1 (C : Con) (st : St) (io : OpI) (K : List Nat → St → Prop) : Prop :=
  match io.op with
  | .call f own xs =>
    match passAll st.obf own 0 (xs.map st.val) with
    | some (cargs, u) => ∃ out, C f cargs out ∧ K ((u ++ (recv st.nx out).2).map (·.1)) (st.step io.d (recv st.nx out).1 (u ++ (recv st.nx out).2))
    | none => False
  | .callv x xs =>
    match st.val x with
    | .fn f caps => ∃ ow,
      match passAll st.obf ow 0 (xs.map st.val ++ caps) with
      | some (cargs, u) => ∃ out, C f cargs out ∧ K ((u ++ (recv st.nx out).2).map (·.1)) (st.step io.d (recv st.nx out).1 (u ++ (recv st.nx out).2))
      | none => False
    | _ => False
  | .inv x ms xs =>
    match st.val x with
    | .d (.iface t y) =>
      match aget t ms with
      | some f =>
        match passAll st.obf [] 0 (ifV y :: xs.map st.val) with
        | some (cargs, u) => ∃ out, C f cargs out ∧ K ((u ++ (recv st.nx out).2).map (·.1)) (st.step io.d (recv st.nx out).1 (u ++ (recv st.nx out).2))
        | none => False
      | none => False
    | _ => False
  | .panic _ => False
  | op =>
    match ev st.nx st.val st.obf op with
    | some (v, u) => K (u.map (·.1)) (st.step io.d v u)
    | none => False
def Wdraw (C : Con) (K : Trace → St → Prop) : List OpI → Trace → St → Prop
  | [], tr, st => K tr st
  | io :: r, tr, st =>
    match io.g with
    | none => Wd1 C st io fun wr st' => Wdraw C K r (tr ++ [(reads st.val io.op, wr)]) st'
    | some (s, want) =>
      match st.get s with
      | .d (.bool b) =>
        if b = want then Wd1 C st io fun wr st' => Wdraw C K r (tr ++ [(reads st.val io.op, wr)]) st'
        else Wdraw C K r (tr ++ [([], [])]) (st.step io.d (.tup []) [])
      | .tup [] => Wdraw C K r (tr ++ [([], [])]) (st.step io.d (.tup []) [])
      | _ => False
def befOf (ops : List OpI) (i j : Nat) : Bool :=
  match ops[j]? with
  | some o => o.bef.testBit i
  | none => false

/-- A guard's slot that bars the instruction: another answer, or none at all. -/
def Bars (want : Bool) (v : V) : Prop := (∃ b, v = .d (.bool b) ∧ b ≠ want) ∨ v = .tup []
/-! at a loop's head -/
/-- What stays: slots as they are; slots that become (or stay) owned slices, under the slot's own name. -/
inductive Dir where
  | keep (s : Nat)
  | own (s : Nat) (com : Bool) (e : TypeId) (sz : Nat)
/-- Does it speak of no object from n on? -/
def V.under (n : Nat) : V → Bool
  | .d _ | .nils | .dptr _ | .nilp | .nilfn => true
  | .own t _ => decide (t < n)
  | .ptr b _ => decide (b < n)
  | .fn _ caps => caps.all fun | .own t _ => decide (t < n) | .ptr b _ => decide (b < n) | .d _ | .nils | .nilp | .nilfn => true | _ => false
  | .agg cs => cs.all fun | .own t _ => decide (t < n) | .ptr b _ => decide (b < n) | .d _ | .nils | .nilp | .nilfn => true | _ => false
  | _ => false
def boxesBelow (n : Nat) : List (Nat × Ob) → Option (List (Nat × Ob))
  | [] => some []
  | (t, .box cs) :: r =>
    match boxesBelow n r with
    | some l => if t < n then (if cs.all (V.under n) then some ((t, .box cs) :: l) else none) else some l
    | none => none
  | (t, .cbox cs) :: r =>
    match boxesBelow n r with
    | some l => if t < n then some ((t, .cbox cs) :: l) else some l
    | none => none
  | (t, .vec com e sz len cs) :: r =>
    match boxesBelow n r with
    | some l => if t < n then some ((t, .vec com e sz len cs) :: l) else some l
    | none => none
def normGo (n : Nat) : List Dir → St → St → Option St
  | [], _, acc => some acc
  | .keep s :: r, st, acc => if (st.get s).under n then normGo n r st { acc with sl := acc.sl ++ [(s, st.get s)] } else none
  | .own s com e sz :: r, st, acc =>
    if s < 2048 then
    match st.get s with
    | .nils => if 0 < sz ∧ aget (n + s) acc.ob = none then normGo n r st { acc with sl := acc.sl ++ [(s, .own (n + s) 0)], ob := acc.ob ++ [(n + s, .vec com e sz 0 [])] } else none
    | .own t len =>
      match st.obf t with
      | some (.vec com' e' sz' l cs) =>
        if com' = com ∧ e' = e ∧ sz' = sz ∧ l = len ∧ (n ≤ t ∨ aget t acc.ob = none) ∧ aget (n + s) acc.ob = none then
          normGo n r { st with ob := adel t st.ob } { acc with sl := acc.sl ++ [(s, .own (n + s) len)], ob := acc.ob ++ [(n + s, .vec com e sz len cs)] }
        else none
      | _ => none
    | _ => none
    else none
/-- The objects that the slots to be owned hold. -/
def ownIds (st : St) : List Dir → List Nat
  | [] => []
  | .keep _ :: r => ownIds st r
  | .own s _ _ _ :: r => match st.get s with
    | .own t _ => t :: ownIds st r
    | _ => ownIds st r
def adelAll {α : Type} : List Nat → List (Nat × α) → List (Nat × α)
  | [], l => l
  | t :: r, l => adelAll r (adel t l)
/-- Slots below 2048 alone; names from n + 2048 on are new. -/
def norm (n : Nat) (ds : List Dir) (st : St) : Option St :=
  match boxesBelow n (adelAll (ownIds st ds) st.ob) with
  | some b => normGo n ds st { sl := [], ob := b, nx := n + 2048 }
  | none => none

def W (C : Con) : IC → St → (Ex → St → Prop) → Prop
  | .skip, st, Q => Q .norm st
  | .reg false ops, st, Q => Wops C (Q .norm) (fun v st => Q (.pan v) st) ops st
  | .reg true ops, st, Q => Wdraw C (fun tr st => meetOk (befOf ops) tr = true ∧ Q .norm st) ops [] st
  | .seq a b, st, Q => W C a st fun e st' => match e with
    | .norm => W C b st' Q
    | e => Q e st'
  | .cond c a b, st, Q => match st.val c with
    | .d (.bool t) => if t = true then W C a st Q else W C b st Q
    | _ => False
  | .block id a, st, Q => W C a st fun e st' => match e with
    | .ex i => if i = id then Q .norm st' else Q (.ex i) st'
    | e => Q e st'
  | .loop a, st, Q => ∃ (n : Nat) (ds : List Dir) (I : Nat → St → Prop), 64 ≤ n ∧ (∃ m st0, norm n ds st = some st0 ∧ I m st0) ∧
      ∀ m st, I m st → W C a st fun e st' => match e with
        | .norm => ∃ m' st0, m' < m ∧ norm n ds st' = some st0 ∧ I m' st0
        | e => Q e st'
  | .exit id, st, Q => Q (.ex id) st
  | .scope _, _, _ => False
  | .label _, st, Q => Q .norm st
  | .goto l, st, Q => Q (.go l) st
  | .ret, st, Q => Q .ret st

/-! ### the text of a function -/
def compOper (P : Program) (own : FuncId → List (Nat × TypeId × Nat)) (ops : Array Oper) (bef : Nat) (o : Oper) : Option OpI :=
  match compOp P own o.op with
  | some op =>
    match o.guard with
    | none => some ⟨o.dst, none, op, bef⟩
    | some (j, want) => match (ops[j]?).bind (·.dst) with
      | some s => some ⟨o.dst, some (s, want), op, bef⟩
      | none => none
  | none => none
def compOpers (P : Program) (own : FuncId → List (Nat × TypeId × Nat)) (ops : Array Oper) : List Nat → List Oper → Option (List OpI)
  | _, [] => some []
  | [], o :: r => match compOper P own ops 0 o, compOpers P own ops [] r with
    | some x, some xs => some (x :: xs)
    | _, _ => none
  | b :: bs, o :: r => match compOper P own ops b o, compOpers P own ops bs r with
    | some x, some xs => some (x :: xs)
    | _, _ => none
/-- Two that may come in either order do not meet in a temporary. -/
def slotsOk (ios : List OpI) : Bool :=
  (List.range ios.length).all fun j => (List.range j).all fun i =>
    befOf ios i j || (match ios[i]?, ios[j]? with
      | some x, some y => apartIO x y
      | _, _ => false)
/-- Whatever must come first comes first in the text. -/
def edgesOk (ops : Array Oper) : Bool :=
  (List.range ops.size).all fun j => match ops[j]? with | some o => o.after.all (fun e => !Region.binds .any e || decide (e.on < j)) | none => true
def dstOk (n : Nat) (ops : List Oper) : Bool := ops.all fun o => match o.dst with | some d => decide (d < n) | none => true
def compC (P : Program) (own : FuncId → List (Nat × TypeId × Nat)) (n : Nat) : Code → Option IC
  | .skip => some .skip
  | .region _ ops draw =>
    if dstOk n ops.toList then
      if draw then
        if edgesOk ops && P.follows .mixedOrders then
          match compOpers P own ops (Region.before ops).toList ops.toList with
          | some ios => if slotsOk ios then some (.reg true ios) else none
          | none => none
        else none
      else (compOpers P own ops [] ops.toList).map (.reg false)
    else none
  | .seq a b => match compC P own n a, compC P own n b with
    | some a, some b => some (.seq a b)
    | _, _ => none
  | .cond c a b => match compX c, compC P own n a, compC P own n b with
    | some c, some a, some b => some (.cond c a b)
    | _, _, _ => none
  | .block id a => (compC P own n a).map (.block id)
  | .loop a => (compC P own n a).map .loop
  | .exit id => some (.exit id)
  | .scope a => (compC P own n a).map .scope
  | .label l => some (.label l)
  | .goto l => some (.goto l)
  | .ret => some .ret
  | _ => none
def compR (P : Program) : List ResultVar → Option (List IR)
  | [] => some []
  | .tmp t :: r => (compR P r).map (.t t :: ·)
  | .cell t ty :: r => match tyAgg P ty, compR P r with
    | some n, some l => some (.cell t n :: l)
    | _, _ => none
def compF (P : Program) (own : FuncId → List (Nat × TypeId × Nat)) (f : Func) : Option IF :=
  match f.body with
  | some c => match compC P own f.ntmps c, compR P f.results.toList with
    | some b, some rs => some ⟨f.params.size + f.nfree, f.ntmps, rs, b⟩
    | _, _ => none
  | none => none
end Go.Vk
