/- Values, messages, subscribers and publishers as plain data, and how they lie in cells. -/
import Derived.Test.YtbdohnigbnhjnaaTvNode
set_option linter.unusedSimpArgs false
set_option linter.unusedVariables false
set_option linter.unusedSectionVars false
namespace Go.Tv
open Go Go.Vk

structure VL where
  k : Int
  n : Int
  s : List UInt8
  a : Int
  b : Int
  c : Int
  deriving DecidableEq, Inhabited
def VLD (v : VL) : List D := [.int .i64 v.k, .int .i64 v.n, .str v.s, .int .i64 v.a, .int .i64 v.b, .int .i64 v.c]
def VLDs : List VL → List D
  | [] => []
  | v :: r => VLD v ++ VLDs r
abbrev sv (s : List UInt8) : V := .d (.str s)
/-- A value, as a struct; values, as a slice. -/
def va (v : VL) : V := .agg [iv v.k, iv v.n, sv v.s, iv v.a, iv v.b, iv v.c]
def vls (L : List VL) : V := .d (.slice L.length (VLDs L))
theorem VLD_length (v : VL) : (VLD v).length = 6 := rfl
@[simp] theorem VLDs_length (l : List VL) : (VLDs l).length = l.length * 6 := by
  induction l with
  | nil => rfl
  | cons n r ih => simp [VLDs, VLD_length, ih]; omega
@[simp] theorem VLDs_append (l m : List VL) : VLDs (l ++ m) = VLDs l ++ VLDs m := by
  induction l with
  | nil => rfl
  | cons n r ih => simp [VLDs, ih]
theorem VLDs_drop (l m : List VL) : (VLDs l ++ VLDs m).drop (l.length * 6) = VLDs m := by
  rw [List.drop_append_of_le_length (by simp)]; simp
/-- What is known of a place in a list of values. -/
theorem at_val {L pre rest : List VL} {x : VL} (h : L = pre ++ x :: rest) :
    ((pre.length : Int) < (L.length : Int)) ∧ pre.length * 6 < L.length * 6 ∧
    (VLDs L).drop (pre.length * 6) = .int .i64 x.k :: .int .i64 x.n :: .str x.s :: .int .i64 x.a :: .int .i64 x.b :: .int .i64 x.c :: VLDs rest ∧ pre.length < L.length := by
  subst h
  refine ⟨by simp; omega, by simp, by rw [VLDs_append, VLDs_drop]; rfl, by simp⟩

/-! ### what is an error -/
def bits01 (s : List UInt8) : Bool := s.all fun b => b == 48 || b == 49
def inR (n : Int) (m : Int) : Bool := decide (0 ≤ n) && decide (n < m)
/-- Something stands in a field that the kind does not use. -/
def confl (v : VL) : Bool :=
  (decide (v.k ≠ 1) && decide (v.k ≠ 2) && decide (v.n ≠ 0)) || (decide (v.k ≠ 3) && decide (v.k ≠ 4) && decide (v.s ≠ [])) || (decide (v.k ≠ 5) && decide (¬ (v.a = 0 ∧ v.b = 0 ∧ v.c = 0)))
/-- The error of a value. -/
def ckV (v : VL) : Int :=
  if v.k < 1 ∨ 5 < v.k then 10
  else if confl v = true then 12
  else if v.k = 1 then (if v.n = 0 ∨ v.n = 1 then 0 else 2)
  else if v.k = 2 then 0
  else if v.k = 3 then (if 64 < v.s.length then 4 else if bits01 v.s = true then 0 else 5)
  else if v.k = 4 then (if 64 < v.s.length then 4 else 0)
  else if (inR v.a 4294967296 && inR v.b 16777216 && inR v.c 256) = true then 0 else 2
def ckVs : List VL → Int
  | [] => 0
  | v :: r => if ckV v = 0 then ckVs r else ckV v

structure MS where
  pub : Int
  ttl : Int
  ta : Int
  tb : Int
  tc : Int
  st : Int
  sq : Int
  te : Bool
  rev : Int
  vs : List VL
  deriving DecidableEq, Inhabited
def mcells (m : MS) : List V := [iv m.pub, iv m.ttl, iv m.ta, iv m.tb, iv m.tc, iv m.st, iv m.sq, tv m.te, iv m.rev, vls m.vs]
def ma (m : MS) : V := .agg (mcells m)
def mostN : Int := 4294967295
/-- The error of a message. -/
def ckM (m : MS) : Int :=
  if (0 ≤ m.pub ∧ m.pub ≤ 999) ∧ (1 ≤ m.ttl ∧ m.ttl ≤ 65535) ∧ (1 ≤ m.st ∧ m.st ≤ mostN) ∧ (0 ≤ m.sq ∧ m.sq ≤ mostN) ∧ (0 ≤ m.rev ∧ m.rev ≤ mostN) then
    (if ckV ⟨5, 0, [], m.ta, m.tb, m.tc⟩ ≠ 0 then ckV ⟨5, 0, [], m.ta, m.tb, m.tc⟩ else if 24 < m.vs.length then 3 else ckVs m.vs)
  else 2

/-! ### subscribers -/
structure SS where
  pub : Int
  rev : Int
  kn : Bool
  st : Int
  sq : Int
  left : Int
  lost : Int
  te : Bool
  vs : List VL
  deriving DecidableEq, Inhabited
def scells (s : SS) : List V := [iv s.pub, iv s.rev, tv s.kn, iv s.st, iv s.sq, iv s.left, iv s.lost, tv s.te, vls s.vs]
def sa (s : SS) : V := .agg (scells s)
def distF (a b : Int) : Int := (b - a) % mostN
def newerF (d : Int) : Bool := decide (1 ≤ d) && decide (d ≤ 2147483647)
def accF (s : SS) (m : MS) (lost : Int) : SS := ⟨s.pub, s.rev, true, m.st, m.sq, m.ttl, min (min s.lost 1000000 + lost) 1000000, m.te, m.vs⟩
/-- What a subscriber does with a message. -/
def takeF (s : SS) (m : MS) : SS × Int :=
  if ckM m ≠ 0 ∨ m.pub ≠ s.pub ∨ m.rev ≠ s.rev then (s, 0)
  else if s.kn = false then (accF s m 0, 1)
  else if s.left < 1 then (accF s m 0, 5)
  else if m.st = s.st then (if newerF (distF s.sq m.sq) = true ∧ m.te = s.te ∧ m.vs = s.vs then (accF s m (distF s.sq m.sq - 1), 3) else (s, 4))
  else if newerF (distF s.st m.st) = true then (accF s m (distF s.st m.st - 1 + m.sq), 2)
  else (s, 4)
def tickF (s : SS) : SS := if 0 < s.left then { s with left := s.left - 1 } else s
def validF (s : SS) : Bool := s.kn && decide (0 < s.left) && !s.te
def newS (p r : Int) : SS := ⟨p, r, false, 0, 0, 0, 0, false, []⟩

/-! ### publishers -/
structure PS where
  pub : Int
  first : Int
  max : Int
  rev : Int
  on : Bool
  st : Int
  sq : Int
  since : Int
  gap : Int
  ta : Int
  tb : Int
  tc : Int
  vs : List VL
  deriving DecidableEq, Inhabited
def pcells (p : PS) : List V := [iv p.pub, iv p.first, iv p.max, iv p.rev, tv p.on, iv p.st, iv p.sq, iv p.since, iv p.gap, iv p.ta, iv p.tb, iv p.tc, vls p.vs]
def pa (p : PS) : V := .agg (pcells p)
def newP (p f m r : Int) : PS × Int :=
  if (0 ≤ p ∧ p ≤ 999) ∧ (1 ≤ f ∧ f ≤ 100) ∧ (f ≤ m ∧ m ≤ 1000) ∧ (0 ≤ r ∧ r ≤ mostN) then (⟨p, f, m, r, false, 0, 0, 0, 0, 0, 0, 0, []⟩, 0) else (⟨0, 0, 0, 0, false, 0, 0, 0, 0, 0, 0, 0, []⟩, 2)
def afterF (n : Int) : Int := if n = mostN then 1 else n + 1
def actF (p : PS) (vs : List VL) : Int := if p.on = false ∨ vs ≠ p.vs then 1 else if p.since + 1 = p.gap then 2 else 0
def sentM (p : PS) : MS := ⟨p.pub, 3 * p.gap + 1, p.ta, p.tb, p.tc, p.st, p.sq, false, p.rev, p.vs⟩
def changeP (p : PS) (vs : List VL) (a b c : Int) : PS := ⟨p.pub, p.first, p.max, p.rev, true, if p.on = true then afterF p.st else 1, 0, 0, p.first, a, b, c, vs⟩
def repeatP (p : PS) : PS := { p with sq := afterF p.sq, gap := min (2 * p.gap) p.max, since := 0 }
/-- One step of a publisher. -/
def stepF (p : PS) (vs : List VL) (a b c : Int) : PS × Option MS :=
  if actF p vs = 0 then ({ p with since := p.since + 1 }, none)
  else
    let q := if actF p vs = 1 then changeP p vs a b c else repeatP p
    if ckM (sentM q) = 0 then (q, some (sentM q)) else (p, none)
end Go.Tv
