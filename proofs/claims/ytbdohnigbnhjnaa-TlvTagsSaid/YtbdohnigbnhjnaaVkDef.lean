/- A small language of ideal values, over which the program's functions are walked: what a slice holds is a list; what a call makes is its own. Definitions alone. -/
import Derived.Orders
import Derived.Laws.AppendOwn
import Derived.Laws.OwnMore
import Derived.Laws.MakeOwn
import Derived.Laws.BytesString
import Derived.Laws.Slices
import Derived.KernelRfl
set_option linter.unusedSimpArgs false
set_option linter.unusedVariables false
set_option linter.unusedSectionVars false
namespace Go.Vk

/-- Pure data. A slice: its length and all its cells. -/
inductive D where
  | bool (b : Bool)
  | int (k : IntKind) (n : Int)
  | str (s : List UInt8)
  | slice (len : Nat) (cs : List D)
  | nilIface
  | iface (t : TypeId) (x : D)
  | agg (cs : List D)
  deriving Inhabited

/-- Values: data; a slice of length and capacity 0; a slice whose array is the walker's own (object t); its closed form; pointers to objects, into data; functions; aggregates. -/
inductive V where
  | d (x : D)
  | nils
  | own (t len : Nat)
  | fresh (com : Bool) (e : TypeId) (sz len : Nat) (cs : List D)
  | fbox (cs : List D)
  | ptr (b off : Nat)
  | dptr (cs : List D)
  | nilp
  | fn (f : FuncId) (caps : List V)
  | nilfn
  | agg (cs : List V)
  | tup (vs : List V)
  | dead
  deriving Inhabited

inductive Ob where
  | box (cs : List V)
  | cbox (cs : List D)
  | vec (com : Bool) (e : TypeId) (sz len : Nat) (cs : List D)
  deriving Inhabited

/-! ### association lists -/
def aget {α : Type} (k : Nat) : List (Nat × α) → Option α
  | [] => none
  | (n, x) :: r => if n = k then some x else aget k r
def aset {α : Type} (k : Nat) (x : α) : List (Nat × α) → List (Nat × α)
  | [] => [(k, x)]
  | (n, y) :: r => if n = k then (k, x) :: r else (n, y) :: aset k x r
def adel {α : Type} (k : Nat) : List (Nat × α) → List (Nat × α)
  | [] => []
  | (n, y) :: r => if n = k then adel k r else (n, y) :: adel k r

structure St where
  sl : List (Nat × V)
  ob : List (Nat × Ob)
  nx : Nat

abbrev Upd := List (Nat × Option Ob)
def upd : Upd → List (Nat × Ob) → List (Nat × Ob)
  | [], ob => ob
  | (k, some o) :: r, ob => upd r (aset k o ob)
  | (k, none) :: r, ob => upd r (adel k ob)

def St.get (st : St) (s : Nat) : V := (aget s st.sl).getD .dead
def St.put (st : St) (d : Option Nat) (v : V) : St :=
  match d with
  | some d => { st with sl := aset d v st.sl }
  | none => st

/-- Kinds of cells that can be compared. -/
inductive CK where
  | int
  | str
  | bool
  deriving Inhabited, DecidableEq

/-! ### the instructions -/
inductive X where
  | t (n : Nat)
  | c (v : V)
  deriving Inhabited

inductive IOp where
  | mv (x : X)
  | pick (c a b : X)
  | box (x : X)
  | build (zs : List V) (ps : List (Nat × Nat × X))
  | bsl (e : TypeId) (sz len : Nat) (zs : List D) (ps : List (Nat × Nat × X))
  | ld (n : Option Nat) (x : X)
  | st (n : Nat) (x y : X)
  | nilc (x : X)
  | bin (o : BinOp) (x y : X)
  | eqb (neg : Bool) (x y : X)
  | eq (neg : Bool) (ks : List CK) (x y : X)
  | eqn (neg : Bool) (x : X)
  | isnil (neg : Bool) (x : X)
  | un (o : UnOp) (x : X)
  | cvi (k : IntKind) (x : X)
  | cvs (x : X)
  | s2b (x : X)
  | b2s (x : X)
  | mki (t : TypeId) (x : X)
  | mkf (f : FuncId) (caps : List X)
  | mks (e : TypeId) (sz by_ : Nat) (z : List D) (n c : X)
  | sl (sz : Nat) (x : X) (lo hi mx : Option X)
  | sls (x : X) (lo hi : Option X)
  | fa (x : X) (off : Nat)
  | fld (x : X) (off : Nat) (n : Option Nat)
  | ia (sz : Nat) (x i : X)
  | iaA (len sz : Nat) (x i : X)
  | ix (len sz : Nat) (n : Option Nat) (x i : X)
  | ixs (x i : X)
  | ta (t : TypeId) (zero : V) (x : X)
  | ex (x : X) (i : Nat)
  | len (x : X)
  | lens (x : X)
  | mn (xs : List X)
  | mx (xs : List X)
  | app (e : TypeId) (sz by_ : Nat) (x y : X)
  | apps (e : TypeId) (x y : X)
  | call (f : FuncId) (own : List (Nat × TypeId × Nat)) (xs : List X)
  | callv (x : X) (xs : List X)
  | inv (x : X) (ms : List (Nat × FuncId)) (xs : List X)
  | panic (x : X)
  deriving Inhabited

structure OpI where
  d : Option Nat
  g : Option (Nat × Bool)
  op : IOp
  bef : Nat := 0
  deriving Inhabited

inductive IC where
  | skip
  | reg (draw : Bool) (ops : List OpI)
  | seq (a b : IC)
  | cond (c : X) (a b : IC)
  | block (id : Nat) (a : IC)
  | loop (a : IC)
  | exit (id : Nat)
  | scope (a : IC)
  | label (l : Nat)
  | goto (l : Nat)
  | ret
  deriving Inhabited

inductive IR where
  | t (n : Nat)
  | cell (n : Nat) (k : Option Nat)
  deriving Inhabited

structure IF where
  np : Nat
  nt : Nat
  rs : List IR
  body : IC
  deriving Inhabited

/-! ### what an instruction comes to -/
def V.cells : V → List V
  | .agg cs => cs
  | v => [v]

/-- May it stand in a cell? -/
def V.cellOk : V → Bool
  | .d (.agg _) => false
  | .fresh .. | .fbox _ | .agg _ | .tup _ | .dead => false
  | _ => true

abbrev Gt := Nat → Option Ob

/-- As data (its cells): a slice of the walker's own is committed. -/
def V.toD1 (ob : Gt) : V → Option (D × Upd)
  | .d (.agg _) => none
  | .d x => some (x, [])
  | .nils => some (.slice 0 [], [])
  | .own t len =>
    match ob t with
    | some (.vec _ e sz l cs) => if l = len then some (.slice len cs, [(t, some (.vec true e sz l cs))]) else none
    | _ => none
  | _ => none
def V.toDs (ob : Gt) : List V → Option (List D × Upd)
  | [] => some ([], [])
  | v :: r =>
    match v.toD1 ob with
    | some (x, u) => match V.toDs ob r with
      | some (xs, us) => some (x :: xs, u ++ us)
      | none => none
    | none => none

/-- cs, with the cells at off replaced. -/
def splice {α : Type} (cs : List α) (off : Nat) (new : List α) : List α := cs.take off ++ (new ++ cs.drop (off + new.length))

def placeV : List V → List (Nat × Nat × V) → Option (List V)
  | zs, [] => some zs
  | zs, (off, n, v) :: r => if v.cells.length = n ∧ off + n ≤ zs.length ∧ v.cells.all V.cellOk = true then placeV (splice zs off v.cells) r else none
def placeD (ob : Gt) : List D → List (Nat × Nat × V) → Option (List D × Upd)
  | zs, [] => some (zs, [])
  | zs, (off, n, v) :: r =>
    match V.toDs ob v.cells with
    | some (cs, u) =>
      if cs.length = n ∧ off + n ≤ zs.length then
        match placeD ob (splice zs off cs) r with
        | some (zs', u') => some (zs', u ++ u')
        | none => none
      else none
    | none => none

def intBin (o : BinOp) (k : IntKind) (x y : Int) : Option D :=
  match o with
  | .add => some (.int k (k.wrap (x + y)))
  | .sub => some (.int k (k.wrap (x - y)))
  | .mul => some (.int k (k.wrap (x * y)))
  | .quo => if y = 0 then none else some (.int k (k.wrap (x.tdiv y)))
  | .rem => if y = 0 then none else some (.int k (x.tmod y))
  | .and => some (.int k (k.wrap (BitVec.ofInt k.bits x &&& BitVec.ofInt k.bits y).toNat))
  | .or => some (.int k (k.wrap (BitVec.ofInt k.bits x ||| BitVec.ofInt k.bits y).toNat))
  | .xor => some (.int k (k.wrap (BitVec.ofInt k.bits x ^^^ BitVec.ofInt k.bits y).toNat))
  | .andNot => some (.int k (k.wrap (BitVec.ofInt k.bits x &&& ~~~(BitVec.ofInt k.bits y)).toNat))
  | .eql => some (.bool (x == y))
  | .neq => some (.bool (x != y))
  | .lss => some (.bool (decide (x < y)))
  | .leq => some (.bool (decide (x ≤ y)))
  | .gtr => some (.bool (decide (x > y)))
  | .geq => some (.bool (decide (x ≥ y)))
  | _ => none
def intShift (o : BinOp) (k : IntKind) (x y : Int) : Option D :=
  if y < 0 then none else
  match o with
  | .shl => some (.int k (k.wrap (x * 2 ^ (min y.toNat k.bits))))
  | .shr => some (.int k (x.fdiv (2 ^ (min y.toNat k.bits))))
  | _ => none
def strBin (o : BinOp) (x y : List UInt8) : Option D :=
  match o with
  | .add => if x.length + y.length ≤ 9223372036854775807 then some (.str (x ++ y)) else none
  | .eql => some (.bool (x == y))
  | .neq => some (.bool (!(x == y)))
  | _ => none
def isShift : BinOp → Bool
  | .shl | .shr => true
  | _ => false
def binD (o : BinOp) : D → D → Option D
  | .int k a, .int k' b => if isShift o then intShift o k a b else if k = k' then intBin o k a b else none
  | .str a, .str b => strBin o a b
  | _, _ => none

/-- '==' of two cells of plain data. -/
def eqD : CK → V → V → Option Bool
  | .bool, .d (.bool a), .d (.bool b) => some (a == b)
  | .int, .d (.int k a), .d (.int k' b) => if k = k' then some (a == b) else none
  | .str, .d (.str a), .d (.str b) => some (a == b)
  | _, _, _ => none
def eqCells : List CK → List V → List V → Option Bool
  | [], [], [] => some true
  | c :: ks, a :: r, b :: s =>
    match eqD c a b with
    | some x => match eqCells ks r s with
      | some y => some (x && y)
      | none => none
    | none => none
  | _, _, _ => none

def V.int? : V → Option Int
  | .d (.int _ n) => some n
  | _ => none

/-- A slice's elements as they stand: length, cells. -/
def V.sliceOf (ob : Gt) : V → Option (Nat × List D)
  | .d (.slice n cs) => some (n, cs)
  | .nils => some (0, [])
  | .own t len =>
    match ob t with
    | some (.vec _ _ _ l cs) => if l = len then some (len, cs) else none
    | _ => none
  | _ => none

/-- The bytes of cells. -/
def bytesOf : List D → Option (List UInt8)
  | [] => some []
  | .int .u8 n :: r => match bytesOf r with
    | some bs => some (UInt8.ofNat n.toNat :: bs)
    | none => none
  | _ :: _ => none
def byteD (b : UInt8) : D := .int .u8 b.toNat

def bound (v : V) (cap : Nat) : Option Nat :=
  match v with
  | .d (.int _ i) => if 0 ≤ i ∧ i ≤ (cap : Int) then some i.toNat else none
  | _ => none
def boundO (v : Option V) (dflt cap : Nat) : Option Nat :=
  match v with
  | some v => bound v cap
  | none => some dflt

def minInts : List V → Option V
  | [.d (.int k a), .d (.int _ b)] => some (.d (.int k (if b < a then b else a)))
  | _ => none
def maxInts : List V → Option V
  | [.d (.int k a), .d (.int _ b)] => some (.d (.int k (if b > a then b else a)))
  | _ => none

def roomB : Nat := 140737488355328

def ev (id : Nat) (val : X → V) (ob : Gt) : IOp → Option (V × Upd)
  | .mv x => some (val x, [])
  | .pick c a b => match val c with
    | .d (.bool t) => some (if t then val a else val b, [])
    | _ => none
  | .box x => if (val x).cells.all V.cellOk then some (.ptr id 0, [(id, some (.box (val x).cells))]) else none
  | .build zs ps => match placeV zs (ps.map fun p => (p.1, p.2.1, val p.2.2)) with
    | some cs => some (.agg cs, [])
    | none => none
  | .bsl e sz len zs ps => match placeD ob zs (ps.map fun p => (p.1, p.2.1, val p.2.2)) with
    | some (cs, u) => if cs.length = len * sz ∧ 0 < sz then some (.own id len, u ++ [(id, some (.vec false e sz len cs))]) else none
    | none => none
  | .ld n x => match val x with
    | .ptr b off => match ob b with
      | some (.box cs) => match n with
        | none => match cs[off]? with
          | some v => some (v, [])
          | none => none
        | some k => if off + k ≤ cs.length then some (.agg ((cs.drop off).take k), []) else none
      | some (.vec _ _ _ _ cs) | some (.cbox cs) => match n with
        | none => match cs[off]? with
          | some v => some (.d v, [])
          | none => none
        | some k => if off + k ≤ cs.length then some (.agg (((cs.drop off).take k).map .d), []) else none
      | none => none
    | .dptr cs => match n with
      | none => match cs with
        | c :: _ => some (.d c, [])
        | [] => none
      | some k => if k ≤ cs.length then some (.agg ((cs.take k).map .d), []) else none
    | _ => none
  | .st n x y => match val x with
    | .ptr b off => match ob b with
      | some (.box cs) =>
        if (val y).cells.length = n ∧ off + n ≤ cs.length ∧ (val y).cells.all V.cellOk then some (.dead, [(b, some (.box (splice cs off (val y).cells)))]) else none
      | some (.vec false e sz l cs) =>
        match V.toDs ob (val y).cells with
        | some (new, u) => if new.length = n ∧ off + n ≤ cs.length ∧ 0 < n ∧ u.isEmpty then some (.dead, [(b, some (.vec false e sz l (splice cs off new)))]) else none
        | none => none
      | _ => none
    | _ => none
  | .nilc x => match val x with
    | .ptr b off => some (.ptr b off, [])
    | .dptr cs => some (.dptr cs, [])
    | .fn f caps => some (.fn f caps, [])
    | _ => none
  | .bin o x y => match val x, val y with
    | .d a, .d b => match binD o a b with
      | some r => some (.d r, [])
      | none => none
    | _, _ => none
  | .eqb neg x y => match val x, val y with
    | .d (.bool a), .d (.bool b) => some (.d (.bool (neg != (a == b))), [])
    | _, _ => none
  | .eq neg ks x y => match val x, val y with
    | .agg a, .agg b => match eqCells ks a b with
      | some b => some (.d (.bool (neg != b)), [])
      | none => none
    | _, _ => none
  | .eqn neg x => match val x with
    | .d .nilIface => some (.d (.bool (!neg)), [])
    | .d (.iface _ _) => some (.d (.bool neg), [])
    | _ => none
  | .un o x => match o, val x with
    | .not, .d (.bool b) => some (.d (.bool !b), [])
    | .neg, .d (.int k n) => some (.d (.int k (k.wrap (0 - n))), [])
    | _, _ => none
  | .cvi k x => match val x with
    | .d (.int _ n) => some (.d (.int k (k.wrap n)), [])
    | _ => none
  | .cvs x => match val x with
    | .d (.str s) => some (.d (.str s), [])
    | _ => none
  | .s2b x => match val x with
    | .d (.str s) => some (.d (.slice s.length (s.map byteD)), [])
    | _ => none
  | .b2s x => match (val x).sliceOf ob with
    | some (n, cs) => match bytesOf cs with
      | some bs => if bs.length = n then some (.d (.str bs), []) else none
      | none => none
    | none => none
  | .mki t x => match val x with
    | .agg cs => match V.toDs ob cs with
      | some (ds, u) => some (.d (.iface t (.agg ds)), u)
      | none => none
    | v => match v.toD1 ob with
      | some (x, u) => some (.d (.iface t x), u)
      | none => none
  | .mkf f caps => some (.fn f (caps.map val), [])
  | .mks e sz by_ z n c => match val n, val c with
    | .d (.int _ l), .d (.int _ m) =>
      if 0 ≤ l ∧ l = m ∧ m.toNat * by_ ≤ 140737488355328 then
        some (.own id l.toNat, [(id, some (.vec false e sz l.toNat (List.flatten (List.replicate l.toNat z))))])
      else none
    | _, _ => none
  | .sl sz x lo hi mx =>
    match val x with
    | .d (.slice len cs) =>
      match mx, hi with
      | none, _ =>
        match boundO (hi.map val) len len with
        | some h => match boundO (lo.map val) 0 h with
          | some l => some (.d (.slice (h - l) ((cs.drop (l * sz)).take ((h - l) * sz))), [])
          | none => none
        | none => none
      | some m, some h0 =>
        match bound (val m) len with
        | some m => match bound (val h0) m with
          | some h => match boundO (lo.map val) 0 h with
            | some l => if m = l then some (.nils, []) else some (.d (.slice (h - l) ((cs.drop (l * sz)).take ((h - l) * sz))), [])
            | none => none
          | none => none
        | none => none
      | _, _ => none
    | .own t len =>
      match ob t with
      | some (.vec _ e sz' l0 cs) =>
        match mx, hi with
        | none, _ =>
          match boundO (hi.map val) len len with
          | some h => match boundO (lo.map val) 0 h with
            | some l => if sz' = sz ∧ l0 = len then some (.d (.slice (h - l) ((cs.drop (l * sz)).take ((h - l) * sz))), [(t, some (.vec true e sz' l0 cs))]) else none
            | none => none
          | none => none
        | some m, some h0 =>
          match bound (val m) len with
          | some m => match bound (val h0) m with
            | some h => match boundO (lo.map val) 0 h with
              | some l => if sz' = sz ∧ l0 = len then (if m = l then some (.nils, []) else some (.d (.slice (h - l) ((cs.drop (l * sz)).take ((h - l) * sz))), [(t, some (.vec true e sz' l0 cs))])) else none
              | none => none
            | none => none
          | none => none
        | _, _ => none
      | _ => none
    | .nils => match lo.map val, hi.map val, mx.map val with
      | none, none, none => some (.nils, [])
      | _, some (.d (.int _ 0)), _ => match boundO (lo.map val) 0 0 with
        | some _ => match boundO (mx.map val) 0 0 with
          | some _ => some (.nils, [])
          | none => none
        | none => none
      | _, _, _ => none
    | _ => none
  | .sls x lo hi => match val x with
    | .d (.str s) =>
      match boundO (hi.map val) s.length s.length with
      | some h => match boundO (lo.map val) 0 h with
        | some l => some (.d (.str ((s.drop l).take (h - l))), [])
        | none => none
      | none => none
    | _ => none
  | .fa x off => match val x with
    | .ptr b o => some (.ptr b (o + off), [])
    | .dptr cs => if off ≤ cs.length then some (.dptr (cs.drop off), []) else none
    | _ => none
  | .fld x off n => match val x with
    | .agg cs => match n with
      | none => match cs[off]? with
        | some v => some (v, [])
        | none => none
      | some k => if off + k ≤ cs.length then some (.agg ((cs.drop off).take k), []) else none
    | _ => none
  | .ia sz x i => match val x, val i with
    | .d (.slice n cs), .d (.int _ j) => if 0 ≤ j ∧ j < (n : Int) ∧ j.toNat * sz < cs.length then some (.dptr (cs.drop (j.toNat * sz)), []) else none
    | .own t n, .d (.int _ j) => match ob t with
      | some (.vec _ _ _ l cs) => if 0 ≤ j ∧ j < (n : Int) ∧ l = n ∧ j.toNat * sz < cs.length then some (.ptr t (j.toNat * sz), []) else none
      | _ => none
    | _, _ => none
  | .iaA len sz x i => match val x, val i with
    | .ptr b o, .d (.int _ j) => if 0 ≤ j ∧ j < (len : Int) then some (.ptr b (o + j.toNat * sz), []) else none
    | .dptr cs, .d (.int _ j) => if 0 ≤ j ∧ j < (len : Int) ∧ j.toNat * sz ≤ cs.length then some (.dptr (cs.drop (j.toNat * sz)), []) else none
    | _, _ => none
  | .ix len sz n x i => match val x, val i with
    | .agg cs, .d (.int _ j) =>
      if 0 ≤ j ∧ j < (len : Int) then
        match n with
        | none => match cs[j.toNat * sz]? with
          | some v => some (v, [])
          | none => none
        | some k => if j.toNat * sz + k ≤ cs.length then some (.agg ((cs.drop (j.toNat * sz)).take k), []) else none
      else none
    | _, _ => none
  | .ixs x i => match val x, val i with
    | .d (.str s), .d (.int _ j) => if 0 ≤ j then match s[j.toNat]? with
      | some b => some (.d (.int .u8 b.toNat), [])
      | none => none else none
    | _, _ => none
  | .ta t zero x => match val x with
    | .d .nilIface => some (.tup [zero, .d (.bool false)], [])
    | .d (.iface u v) => if u = t then (match v with
        | .agg cs => some (.tup [.agg (cs.map .d), .d (.bool true)], [])
        | v => some (.tup [.d v, .d (.bool true)], []))
      else some (.tup [zero, .d (.bool false)], [])
    | _ => none
  | .ex x i => match val x with
    | .tup vs => match vs[i]? with
      | some v => some (v, [])
      | none => none
    | _ => none
  | .len x => match val x with
    | .d (.slice n _) => some (.d (.int .i64 n), [])
    | .own _ n => some (.d (.int .i64 n), [])
    | .nils => some (.d (.int .i64 0), [])
    | _ => none
  | .lens x => match val x with
    | .d (.str s) => some (.d (.int .i64 s.length), [])
    | _ => none
  | .mn xs => match minInts (xs.map val) with
    | some v => some (v, [])
    | none => none
  | .mx xs => match maxInts (xs.map val) with
    | some v => some (v, [])
    | none => none
  | .app e sz by_ x y =>
    match (val y).sliceOf ob with
    | some (m, new) =>
      if new.length = m * sz ∧ 0 < sz then
        match val x with
        | .nils => if m * by_ ≤ roomB then some (.own id m, [(id, some (.vec false e sz m new))]) else none
        | .own t n =>
          match ob t with
          | some (.vec com e' sz' l cs) =>
            if e' = e ∧ sz' = sz ∧ l = n ∧ (n + m) * by_ ≤ roomB then
              some (.own id (n + m), [(t, none), (id, some (.vec com e sz (n + m) (cs ++ new)))]) else none
          | _ => none
        | _ => none
      else none
    | none => none
  | _ => none

end Go.Vk
