/- Plain facts on the printed TLV functions: bytes, lengths, tags (no program in sight). -/
import Derived.Test.YtafbnfpabcaebaaXTx12
import Derived.Laws.BitsLemmas
namespace Go.Proofs.Ytafbnfpabcaebaa.Tlv
open Go.RowKit Go.Proofs.Ytafbnfpabcaebaa.XT Go.Proofs.YtafbnfpabcaebaaW.PrintWords
abbrev okB (l : List Int) : Prop := ∀ x ∈ l, 0 ≤ x ∧ x < 256
theorem w64 {x : Int} (h0 : -9223372036854775808 ≤ x) (h1 : x < 9223372036854775808) : wrap64 x = x := by unfold wrap64; omega
theorem rd_app (pre : List S26) (x : S26) (m : List S26) : rd_T26 (pre ++ x :: m) (pre.length : Int) = x := by simp [rd_T26]
theorem rd_zero (x : Int) (l : List Int) : rd (x :: l) 0 = x := rfl
theorem wf_okB {l : List Int} (h : ∀ x ∈ l, (Lit.int .u8 x).wf = true) : okB l := fun x hx => by
  have := h x hx
  simp [Lit.wf, IntKind.min, IntKind.max, IntKind.signed, IntKind.bits] at this
  omega
theorem i64_wid (n : Int) (h0 : 0 ≤ n) (h1 : n < 2 ^ 62) : IntKind.i64.wrap n = n := by
  have e : (2 : Int) ^ 62 = 4611686018427387904 := by decide
  rw [e] at h1
  rw [IntKind.wrap_i64]
  omega
theorem or8 (x y : Int) (hx : 0 ≤ x) (hx1 : x < 1099511627776) (hy : 0 ≤ y) (hy1 : y < 256) : Go.bits .or .i64 (wrap64 (x * 256)) (wrap64 y) = x * 256 + y := by
  have e : (2 : Int) ^ 62 = 4611686018427387904 := by decide
  have e8 : (2 : Int) ^ 8 = 256 := by decide
  rw [w64 (by omega) (by omega), w64 (by omega) (by omega)]
  exact bits_join .i64 62 (by decide) i64_wid 8 (x * 256) y (by omega) (by rw [e8]; omega) (by rw [e]; omega) hy (by rw [e8]; omega) (by rw [e]; omega)
/-- The bytes of a length. -/
def hd (n : Int) : List Int := if n < 128 then [n] else if n < 256 then [129, n] else [130, n / 256, n % 256]
def headF (n : Int) : Int := if n < 128 then 1 else if n < 256 then 2 else 3
/-- What reads a length: its value, its bytes, the error. -/
def lenF : List Int → Int × Int × Int
  | [] => (0, 0, 13)
  | b :: r => if b = 129 then (match r with | [] => (0, 0, 13) | n :: _ => if n < 128 then (0, 0, 16) else (n, 2, 0))
    else if b = 130 then (match r with | x :: y :: _ => if x * 256 + y < 256 then (0, 0, 16) else (x * 256 + y, 3, 0) | _ => (0, 0, 13))
    else if b > 127 then (0, 0, 16) else (b, 1, 0)
theorem headF1 {n : Int} (h : n < 128) : headF n = 1 := by unfold headF; rw [if_pos h]
theorem headF2 {n : Int} (h : 128 ≤ n) (h' : n < 256) : headF n = 2 := by unfold headF; rw [if_neg (by omega), if_pos h']
theorem headF3 {n : Int} (h : 256 ≤ n) : headF n = 3 := by unfold headF; rw [if_neg (by omega), if_neg (by omega)]
theorem head_eq (n : Int) : tlv_head.f n = some (headF n) := by
  unfold tlv_head.f headF
  split
  · rfl
  · split <;> rfl
theorem len_step (k : Nat) (x2 x3 : Int) (y : List Int) (i : Int) (h0 : 0 ≤ i) (h1 : i < (y.length : Int)) (h2 : y.length ≤ 100) :
    tlv_length.l0 (k + 1) x2 x3 y (y.length : Int) i = tlv_length.l0 k (Go.bits .or .i64 (wrap64 (x2 * 256)) (wrap64 (rd y i))) x3 y (y.length : Int) (i + 1) := by
  rw [tlv_length.l0, if_pos h1, if_pos h0, if_pos h1, w64 (x := i + 1) (by omega) (by omega)]
theorem len_end (k : Nat) (x2 x3 : Int) (y : List Int) (i : Int) (h : i = (y.length : Int)) (h3 : ¬ x3 = 1) :
    tlv_length.l0 (k + 1) x2 x3 y (y.length : Int) i = some (if headF x2 = x3 then (x2, x3, 0) else (0, 0, 16)) := by
  rw [tlv_length.l0, if_neg (by omega), if_neg h3, head_eq]
  simp only [Option.bind_some]
  split <;> rfl
theorem length_eq (b : List Int) (hb : okB b) (k : Nat) : tlv_length.f (k + 5) b = some (lenF b) := by
  match b, hb with
  | [], _ => simp [tlv_length.f, lenF]
  | b0 :: r, hb =>
    have h0 := hb b0 (by simp)
    have hl : ¬ (((b0 :: r).length : Int) = 0) := by simp only [List.length_cons]; omega
    have hp : (0 : Int) < ((b0 :: r).length : Int) := by simp only [List.length_cons]; omega
    simp only [tlv_length.f]
    rw [if_neg hl, if_pos hp, rd_zero]
    by_cases h1 : b0 = 129
    · subst h1
      rw [if_pos rfl, tlv_length.j0]
      match r, hb with
      | [], _ => simp [lenF]
      | n :: r', hb =>
        have hn := hb n (by simp)
        rw [if_neg (by simp only [List.length_cons]; omega), if_pos hp, if_pos (by omega), if_pos (by omega), if_pos (by simp only [List.length_cons]; omega)]
        simp only [Option.bind_some]
        have e : ((129 :: n :: r').take (2 : Int).toNat).drop 1 = [n] := rfl
        rw [e, len_step _ _ _ _ _ (by omega) (by simp) (by simp), len_end _ _ _ _ _ (by simp) (by omega), rd_zero, or8 0 n (by omega) (by omega) hn.1 hn.2]
        simp only [lenF, if_true]
        rw [show (0 : Int) * 256 + n = n from by omega]
        by_cases c : n < 128
        · rw [if_pos c, if_neg (by rw [headF1 c]; decide)]
        · rw [if_neg c, if_pos (headF2 (by omega) (by omega))]
    · rw [if_neg h1]
      by_cases h2 : b0 = 130
      · subst h2
        rw [if_pos rfl, tlv_length.j0]
        match r, hb with
        | [], _ => simp [lenF]
        | [_], _ => simp [lenF]
        | x :: y :: r', hb =>
          have hx := hb x (by simp)
          have hy := hb y (by simp)
          rw [if_neg (by simp only [List.length_cons]; omega), if_pos hp, if_pos (by omega), if_pos (by omega), if_pos (by simp only [List.length_cons]; omega)]
          simp only [Option.bind_some]
          have e : ((130 :: x :: y :: r').take (3 : Int).toNat).drop 1 = [x, y] := rfl
          rw [e, len_step _ _ _ _ _ (by omega) (by simp) (by simp), rd_zero, or8 0 x (by omega) (by omega) hx.1 hx.2, len_step _ _ _ _ _ (by omega) (by simp) (by simp), len_end _ _ _ _ _ (by simp) (by omega)]
          have er : rd [x, y] (0 + 1) = y := rfl
          rw [er, show (0 : Int) * 256 + x = x from by omega, or8 x y hx.1 (by omega) hy.1 hy.2]
          simp only [lenF]
          rw [if_neg (show ¬ (130 : Int) = 129 from by omega), if_pos trivial]
          by_cases c : x * 256 + y < 256
          · rw [if_pos c]
            by_cases c2 : x * 256 + y < 128
            · rw [if_neg (by rw [headF1 c2]; decide)]
            · rw [if_neg (by rw [headF2 (by omega) c]; decide)]
          · rw [if_neg c, if_pos (headF3 (by omega))]
      · rw [if_neg h2, tlv_length.j0, if_neg (by simp only [List.length_cons]; omega), if_pos hp, if_neg (by omega), if_pos rfl, rd_zero, w64 (by omega) (by omega)]
        simp only [lenF]
        rw [if_neg h1, if_neg h2]
        by_cases c : b0 > 127
        · rw [if_pos c, if_pos c]
        · rw [if_neg c, if_neg c, head_eq]
          simp only [Option.bind_some]
          rw [if_pos (headF1 (by omega))]
end Go.Proofs.Ytafbnfpabcaebaa.Tlv
