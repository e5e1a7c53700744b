/- From the program's own instructions to the small language: a function that the kernel computes. -/
import Derived.Test.YtbdohnigbnhjnaaVkStep
set_option linter.unusedSimpArgs false
set_option linter.unusedVariables false
set_option linter.unusedSectionVars false
namespace Go.Vk

def constC : Value → Option V
  | .bool b => some (.d (.bool b))
  | .int k n => some (.d (.int k n))
  | .string s => some (.d (.str s.data.toList))
  | .slice none 0 0 => some .nils
  | .pointer none => some .nilp
  | .nilIface => some (.d .nilIface)
  | .nilFunc => some .nilfn
  | _ => none
def constCs : List Value → Option (List V)
  | [] => some []
  | v :: r => match constC v, constCs r with
    | some x, some xs => some (x :: xs)
    | _, _ => none
def constV : Value → Option V
  | .agg cs => (constCs cs.toList).map .agg
  | v => constC v
def V.data? : V → Option D
  | .d (.agg _) => none
  | .d x => some x
  | .nils => some (.slice 0 [])
  | _ => none
def datas : List V → Option (List D)
  | [] => some []
  | v :: r => match v.data?, datas r with
    | some x, some xs => some (x :: xs)
    | _, _ => none

def compX : Operand → Option X
  | .tmp t => some (.t t)
  | .const v => (constV v).map .c
  | .func f => some (.c (.fn f []))
  | .global _ => none
def compXs : List Operand → Option (List X)
  | [] => some []
  | v :: r => match compX v, compXs r with
    | some x, some xs => some (x :: xs)
    | _, _ => none
def compXo : Option Operand → Option (Option X)
  | none => some none
  | some x => (compX x).map some

/-- How many cells, if it is a struct or an array. -/
def tyAgg (P : Program) (t : TypeId) : Option (Option Nat) :=
  match P.underlying t, P.info? t with
  | some (.struct _), some i => some (some i.size)
  | some (.array _ _), some i => some (some i.size)
  | some _, some _ => some none
  | _, _ => none
def tySize (P : Program) (t : TypeId) : Option Nat := (P.info? t).map (·.size)

def fieldAt (P : Program) (fs : Array Field) (i : Nat) : Option (Nat × Nat) :=
  match fs[i]? with
  | some f => (tySize P f.type).map fun n => (f.offset, n)
  | none => none
def compParts (place : Nat → Option (Nat × Nat)) : List (Nat × Operand) → Option (List (Nat × Nat × X))
  | [] => some []
  | (i, x) :: r => match place i, compX x, compParts place r with
    | some (off, n), some x, some ps => some ((off, n, x) :: ps)
    | _, _, _ => none

/-- The zero cells of n elements. -/
def zeroCs (z : List D) (n : Nat) : List D := List.flatten (List.replicate n z)
def elemInfo (P : Program) (t : TypeId) : Option (TypeId × TypeInfo × Value × List D) :=
  match P.underlying t with
  | some (.slice e) => match P.info? e with
    | some i => match i.zero with
      | some z => match (constCs z.cells.toList).bind datas with
        | some ds => if ds.length = i.size ∧ 0 < i.size ∧ z.cells.size = i.size then some (e, i, z, ds) else none
        | none => none
      | none => none
    | none => none
  | _ => none

/-- The fields in order, one behind the other. -/
def eqFs (q : TypeId → Option (List CK)) : List Field → Nat → Option (List CK)
  | [], _ => some []
  | f :: r, off => if f.offset = off ∧ f.name ≠ "_" then match q f.type with
      | some ks => if ks.length = 0 then none else match eqFs q r (off + ks.length) with
        | some l => some (ks ++ l)
        | none => none
      | none => none
    else none
/-- The kinds of a type's cells, where '==' compares cell by cell. -/
def eqT (P : Program) : Nat → TypeId → Option (List CK)
  | 0, _ => none
  | d + 1, t =>
    match P.underlying t, tyAgg P t with
    | some (.int _), some none => some [.int]
    | some .string, some none => some [.str]
    | some .bool, some none => some [.bool]
    | some (.struct fs), some (some n) =>
      if P.stoodInHeld t then none else match eqFs (eqT P d) fs.toList 0 with
        | some ks => if ks.length = n then some ks else none
        | none => none
    | some (.array len e), some (some n) =>
      match eqT P d e with
      | some ks => if len * ks.length = n ∧ tySize P e = some ks.length then some (List.flatten (List.replicate len ks)) else none
      | none => none
    | _, _ => none
/-- The function behind a method's name at a type: a value receiver, no path. -/
def resolveM (P : Program) (t : TypeId) (m : String) : Option FuncId :=
  match P.info? t with
  | some i => match i.methods.find? (·.name == m) with
    | some me => match me.path.toList, me.func with
      | [], some (f, false) => match P.underlying t with
        | some (.pointer _) => none
        | some _ => some f
        | none => none
      | _, _ => none
    | none => none
  | none => none
def resolveMs (P : Program) (m : String) : List TypeId → List (Nat × FuncId)
  | [] => []
  | t :: r => match resolveM P t m with
    | some f => (t, f) :: resolveMs P m r
    | none => resolveMs P m r
def isNils : X → Bool
  | .c .nils => true
  | _ => false
def isU8 (P : Program) (e : TypeId) : Bool :=
  match P.underlying e with
  | some (.int .u8) => true
  | _ => false
def compCall (P : Program) (own : FuncId → List (Nat × TypeId × Nat)) (c : Call) : Option IOp :=
  match compXs c.args.toList with
  | none => none
  | some xs =>
    match c.callee with
    | .value (.func f) => some (.call f (own f) xs)
    | .value x => (compX x).map fun x => .callv x xs
    | .invoke x m => (compX x).map fun x => .inv x (resolveMs P m ((own 1000000).map (·.1))) xs
    | .builtin .len => match xs, c.argTypes.toList with
      | [x], [t] => match P.underlying t with
        | some (.slice _) => some (.len x)
        | some .string => some (.lens x)
        | _ => none
      | _, _ => none
    | .builtin .min => match xs with
      | [x, y] => some (.mn [x, y])
      | _ => none
    | .builtin .max => match xs with
      | [x, y] => some (.mx [x, y])
      | _ => none
    | .builtin .append => match xs, c.argTypes.toList with
      | [x, y], [t, u] =>
        match elemInfo P t with
        | some (e, i, _, _) => if u = t ∧ 0 < i.bytes then some (.app e i.size i.bytes x y) else none
        | none => none
      | _, _ => none
    | _ => none

def compOp (P : Program) (own : FuncId → List (Nat × TypeId × Nat)) : Op → Option IOp
  | .move x | .assign x => (compX x).map .mv
  | .pick c a b => match compX c, compX a, compX b with
    | some c, some a, some b => some (.pick c a b)
    | _, _, _ => none
  | .alloc e => match P.info? e with
    | some i => match i.zero with
      | some z => (constV z).map fun v => .box (.c v)
      | none => none
    | none => none
  | .box _ x => (compX x).map .box
  | .build t parts => match P.info? t, P.underlying t with
    | some i, some (.struct fs) => match i.zero with
      | some (.agg z) => match constCs z.toList with
        | some zs => if fs.toList.all (fun f => (P.info? f.type).isSome) then (compParts (fieldAt P fs) parts.toList).map (.build zs) else none
        | none => none
      | _ => none
    | some i, some (.array _ e) => match i.zero, tySize P e with
      | some (.agg z), some n => match constCs z.toList with
        | some zs => (compParts (fun i => some (i * n, n)) parts.toList).map (.build zs)
        | none => none
      | _, _ => none
    | _, _ => none
  | .buildSlice t len parts => match elemInfo P t with
    | some (e, i, _, ds) =>
      if len * i.size ≤ 2 ^ 24 then (compParts (fun j => some (j * i.size, i.size)) parts.toList).map fun ps => .bsl e i.size len (zeroCs ds len) ps else none
    | none => none
  | .load t x => match tyAgg P t, compX x with
    | some n, some x => some (.ld n x)
    | _, _ => none
  | .store t x y => match tySize P t, compX x, compX y with
    | some n, some x, some y => some (.st n x y)
    | _, _, _ => none
  | .nilCheck x => (compX x).map .nilc
  | .binOp o t x y _ => match compX x, compX y with
    | some x, some y => match P.underlying t with
      | some (.int _) | some .string => some (.bin o x y)
      | some .bool => match o with
        | .eql => some (.eqb false x y)
        | .neq => some (.eqb true x y)
        | _ => none
      | some (.slice _) => if isNils y then match o with
        | .eql => some (.isnil false x)
        | .neq => some (.isnil true x)
        | _ => none
        else none
      | some (.struct _) | some (.array _ _) => if P.eqGuardType P.depth t then none else match eqT P 8 t with
        | some ks => match o with
          | .eql => some (.eq false ks x y)
          | .neq => some (.eq true ks x y)
          | _ => none
        | none => none
      | _ => none
    | _, _ => none
  | .unOp o _ x => (compX x).map (.un o)
  | .convert src dst x => match compX x with
    | some x => match P.underlying src, P.underlying dst with
      | some _, some (.int k) => some (.cvi k x)
      | some .string, some .string => some (.cvs x)
      | some (.slice e), some .string => if isU8 P e then some (.b2s x) else none
      | some .string, some (.slice e) => if isU8 P e then some (.s2b x) else none
      | _, _ => none
    | none => none
  | .makeInterface t x => match compX x with
    | some x => match P.underlying t with
      | some (.interface _) => none
      | some _ => some (.mki t x)
      | none => none
    | none => none
  | .typeAssert x _ t true => match compX x with
    | some x => match P.underlying t, P.info? t with
      | some (.interface _), _ => none
      | some _, some i => match i.zero with
        | some z => (constV z).map fun v => .ta t v x
        | none => none
      | _, _ => none
    | none => none
  | .makeSlice t n c => match elemInfo P t, compX n, compX c with
    | some (e, i, _, ds), some n, some c => if 0 < i.bytes then some (.mks e i.size i.bytes ds n c) else none
    | _, _, _ => none
  | .makeFunc (.func f) first caps => if first.isEmpty then (compXs caps.toList).map (.mkf f) else none
  | .slice t x lo hi mx => match compX x, compXo lo, compXo hi, compXo mx with
    | some x, some lo, some hi, some mx => match P.underlying t with
      | some (.slice e) => match tySize P e with
        | some n => if 0 < n then some (.sl n x lo hi mx) else none
        | none => none
      | some .string => match mx with
        | none => some (.sls x lo hi)
        | some _ => none
      | _ => none
    | _, _, _, _ => none
  | .fieldAddr s x f => match P.underlying s, compX x with
    | some (.struct fs), some x => match fieldAt P fs f with
      | some (off, n) => if 0 < n then some (.fa x off) else none
      | none => none
    | _, _ => none
  | .field s x f => match P.underlying s, compX x with
    | some (.struct fs), some x => match fs[f]? with
      | some fd => match tyAgg P fd.type with
        | some n => some (.fld x fd.offset n)
        | none => none
      | none => none
    | _, _ => none
  | .indexAddr t x i => match compX x, compX i with
    | some x, some i => match P.underlying t with
      | some (.slice e) => match tySize P e with
        | some n => if 0 < n then some (.ia n x i) else none
        | none => none
      | some (.array len e) => match tySize P e with
        | some n => if 0 < n then some (.iaA len n x i) else none
        | none => none
      | _ => none
    | _, _ => none
  | .index t x i => match compX x, compX i with
    | some x, some i => match P.underlying t with
      | some (.array len e) => match tySize P e, tyAgg P e with
        | some n, some k => some (.ix len n k x i)
        | _, _ => none
      | some .string => some (.ixs x i)
      | _ => none
    | _, _ => none
  | .extract x i => (compX x).map fun x => .ex x i
  | .call c => compCall P own c
  | .panic x => (compX x).map .panic
  | _ => none

end Go.Vk
