/- TLV nodes as plain data, and how they lie in cells. -/
import Derived.Test.YtbdohnigbnhjnaaVkSimp
set_option linter.unusedSimpArgs false
set_option linter.unusedVariables false
set_option linter.unusedSectionVars false
namespace Go.Tv
open Go Go.Vk

inductive TN where
  | mk (t : Int) (v : List UInt8) (p : List TN)
  deriving Inhabited

def bs (l : List UInt8) : List D := l.map byteD
mutual
def ND : TN → List D
  | .mk t v p => [.int .i64 t, .slice v.length (bs v), .slice p.length (NDs p)]
def NDs : List TN → List D
  | [] => []
  | n :: r => ND n ++ NDs r
end
/-- Nodes, as a slice. -/
def ns (l : List TN) : V := .d (.slice l.length (NDs l))
def bv (l : List UInt8) : V := .d (.slice l.length (bs l))
abbrev iv (n : Int) : V := .d (.int .i64 n)
abbrev tv (b : Bool) : V := .d (.bool b)

@[simp] theorem bs_nil : bs [] = [] := rfl
@[simp] theorem bs_cons (b : UInt8) (l : List UInt8) : bs (b :: l) = .int .u8 b.toNat :: bs l := rfl
@[simp] theorem bs_length (l : List UInt8) : (bs l).length = l.length := by simp [bs]
@[simp] theorem bs_append (l m : List UInt8) : bs (l ++ m) = bs l ++ bs m := by simp [bs]
theorem bs_drop (l : List UInt8) (n : Nat) : (bs l).drop n = bs (l.drop n) := by simp [bs, List.map_drop]
theorem bs_take (l : List UInt8) (n : Nat) : (bs l).take n = bs (l.take n) := by simp [bs, List.map_take]
@[simp] theorem bytesOf_bs (l : List UInt8) : bytesOf (bs l) = some l := by
  induction l with
  | nil => rfl
  | cons b r ih => simp [bytesOf, ih]
theorem ND_length (n : TN) : (ND n).length = 3 := by cases n; rfl
@[simp] theorem NDs_length (l : List TN) : (NDs l).length = l.length * 3 := by
  induction l with
  | nil => rfl
  | cons n r ih => simp [NDs, ND_length, ih]; omega
@[simp] theorem NDs_append (l m : List TN) : NDs (l ++ m) = NDs l ++ NDs m := by
  induction l with
  | nil => rfl
  | cons n r ih => simp [NDs, ih]
theorem NDs_drop (l m : List TN) : (NDs l ++ NDs m).drop (l.length * 3) = NDs m := by
  rw [List.drop_append_of_le_length (by simp)]; simp
def tagB (t : Int) : Bool := decide (t ≥ 1) && decide (t ≤ 254) && (band t 31 != 31)
def nestB (t : Int) : Bool := band t 32 != 0
mutual
def chk : List TN → Int → Int
  | [], _ => 0
  | x :: r, d => if chk1 x d = 0 then chk r d else chk1 x d
def chk1 : TN → Int → Int
  | .mk t v p, d => if tagB t = false then 15 else if d > 6 then 17 else if (nestB t = true ∧ v.length > 0) ∨ (nestB t = false ∧ p.length > 0) then 12 else chk p (d + 1)
end
mutual
/-- The weight of nodes: how many there are, and bytes. -/
def wt : TN → Nat
  | .mk _ v p => 1 + v.length + wts p
def wts : List TN → Nat
  | [] => 0
  | x :: r => wt x + wts r
end
theorem wt_pos (x : TN) : 1 ≤ wt x := by cases x; simp only [wt]; omega
theorem wts_append (l m : List TN) : wts (l ++ m) = wts l + wts m := by
  induction l with
  | nil => simp [wts]
  | cons x r ih => simp [wts, ih]; omega
theorem wts_length (l : List TN) : l.length ≤ wts l := by
  induction l with
  | nil => simp
  | cons x r ih => have := wt_pos x; simp [wts]; omega
/-- What is known of a place in a list of nodes. -/
theorem at_node {L pre rest : List TN} {t : Int} {v : List UInt8} {p : List TN} (h : L = pre ++ .mk t v p :: rest) :
    ((pre.length : Int) < (L.length : Int)) ∧ pre.length * 3 < L.length * 3 ∧
    (NDs L).drop (pre.length * 3) = .int .i64 t :: .slice v.length (bs v) :: .slice p.length (NDs p) :: NDs rest ∧
    wts L = wts pre + (1 + v.length + wts p) + wts rest ∧ L.length ≤ wts L ∧ pre.length < L.length := by
  subst h
  refine ⟨by simp; omega, by simp, by rw [NDs_append, NDs_drop]; rfl, by rw [wts_append]; simp [wts, wt]; omega, wts_length _, by simp⟩
def headF (n : Int) : Int := if n < 128 then 1 else if n < 256 then 2 else 3
mutual
/-- The number of bytes of a node's body, and of nodes. -/
def bod : TN → Int
  | .mk _ v p => v.length + szs p
def szs : List TN → Int
  | [] => 0
  | x :: r => 1 + headF (bod x) + bod x + szs r
end
theorem headF_le (n : Int) : 1 ≤ headF n ∧ headF n ≤ 3 := by unfold headF; split <;> (try split) <;> omega
mutual
theorem bod_le : ∀ x : TN, 0 ≤ bod x ∧ bod x + 4 ≤ 4 * wt x
  | .mk _ v p => by have := szs_le p; simp only [bod, wt]; omega
theorem szs_le : ∀ L : List TN, 0 ≤ szs L ∧ szs L ≤ 4 * wts L
  | [] => by simp [szs, wts]
  | x :: r => by have := bod_le x; have := szs_le r; have := headF_le (bod x); simp only [szs, wts]; omega
end
theorem szs_append (l m : List TN) : szs (l ++ m) = szs l + szs m := by
  induction l with
  | nil => simp [szs]
  | cons x r ih => simp only [List.cons_append, szs, ih]; omega
def u8 (n : Int) : UInt8 := UInt8.ofNat (n % 256).toNat
theorem wr8 (n : Int) : IntKind.u8.wrap n = ((u8 n).toNat : Int) := by
  unfold u8 IntKind.wrap
  simp [IntKind.signed, IntKind.bits]
  omega
/-- A length's bytes. -/
def hdB (n : Int) : List UInt8 := if n < 128 then [u8 n] else if n < 256 then [129, u8 n] else [130, u8 (n.fdiv 256), u8 n]
theorem hdB_length (n : Int) : ((hdB n).length : Int) = headF n := by unfold hdB headF; split <;> (try split) <;> rfl
mutual
def enc : TN → List UInt8
  | .mk t v p => u8 t :: (hdB (v.length + szs p) ++ v ++ encs p)
def encs : List TN → List UInt8
  | [] => []
  | x :: r => enc x ++ encs r
end
mutual
theorem enc_length : ∀ x : TN, ((enc x).length : Int) = 1 + headF (bod x) + bod x
  | .mk t v p => by have := encs_length p; have := hdB_length (v.length + szs p); simp only [enc, bod, List.length_cons, List.length_append]; omega
theorem encs_length : ∀ L : List TN, ((encs L).length : Int) = szs L
  | [] => rfl
  | x :: r => by have := enc_length x; have := encs_length r; simp only [encs, szs, List.length_append]; omega
end
theorem encs_append (l m : List TN) : encs (l ++ m) = encs l ++ encs m := by
  induction l with
  | nil => rfl
  | cons x r ih => simp [encs, ih]
def encode (L : List TN) : List UInt8 × Int := if chk L 0 = 0 then (if szs L > 1500 then ([], 4) else (encs L, 0)) else ([], chk L 0)
mutual
def deeps : List TN → Int → Bool
  | [], _ => false
  | x :: r, d => deep1 x d || deeps r d
def deep1 : TN → Int → Bool
  | .mk _ _ p, d => decide (d < 0) || deeps p (d - 1)
end
def largeB (L : List TN) : Bool := deeps L 12 || decide (5000 < wts L)
mutual
def sameL : List TN → List TN → Bool
  | [], [] => true
  | x :: r, y :: s => same1 x y && sameL r s
  | _, _ => false
def same1 : TN → TN → Bool
  | .mk t v p, .mk t' v' p' => t == t' && (v == v' && sameL p p')
end
theorem sameL_len : ∀ {L M : List TN}, L.length ≠ M.length → sameL L M = false
  | [], [], h => absurd rfl h
  | [], _ :: _, _ => rfl
  | _ :: _, [], _ => rfl
  | x :: r, y :: s, h => by simp [sameL, sameL_len (L := r) (M := s) (by simpa using h)]
mutual
theorem same1_eq : ∀ {x y : TN}, same1 x y = true → x = y
  | .mk t v p, .mk t' v' p', h => by
    simp [same1] at h
    obtain ⟨rfl, rfl, h⟩ := h
    rw [sameL_eq h]
theorem sameL_eq : ∀ {L M : List TN}, sameL L M = true → L = M
  | [], [], _ => rfl
  | [], _ :: _, h => by simp [sameL] at h
  | _ :: _, [], h => by simp [sameL] at h
  | x :: r, y :: s, h => by
    simp [sameL] at h
    rw [same1_eq h.1, sameL_eq h.2]
end
mutual
theorem same1_refl : ∀ x : TN, same1 x x = true
  | .mk t v p => by simp [same1, sameL_refl p]
theorem sameL_refl : ∀ L : List TN, sameL L L = true
  | [] => rfl
  | x :: r => by simp [sameL, same1_refl x, sameL_refl r]
end
end Go.Tv
