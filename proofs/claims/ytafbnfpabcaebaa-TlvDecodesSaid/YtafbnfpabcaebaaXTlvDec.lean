/- The printed decoder, told without rounds. -/
import Derived.Test.YtafbnfpabcaebaaXTlvBytes
namespace Go.Proofs.Ytafbnfpabcaebaa.Tlv
open Go.RowKit Go.Proofs.Ytafbnfpabcaebaa.XT Go.Proofs.YtafbnfpabcaebaaW.PrintWords
def tagB (t : Int) : Bool := decide (t ≥ 1) && decide (t ≤ 254) && (Go.bits .and .i64 t 31 != 31)
def nestB (t : Int) : Bool := Go.bits .and .i64 t 32 != 0
theorem tag_eq (t : Int) : tlv_tag.f t = some (tagB t) := by
  unfold tlv_tag.f tagB
  by_cases h1 : t ≥ 1
  · by_cases h2 : t ≤ 254 <;> simp [h1, h2]
  · simp [h1]
theorem nest_eq (t : Int) : tlv_Nested.f t = some (nestB t) := rfl
theorem clone_eq (l : List Int) (h : l.length < 140737488355328) : slices_Clone_byte_byte.f l = some l := by simp [slices_Clone_byte_byte.f, h]
/-- What a decoder reads of bytes at a depth: nodes, or the first error. -/
def dec : Nat → List Int → Int → List S26 × Int
  | 0, _, _ => ([], 0)
  | _ + 1, [], _ => ([], 0)
  | f + 1, t :: r, d =>
    if tagB t = false then ([], 15) else if d > 6 then ([], 17) else
    if (lenF r).2.2 ≠ 0 then ([], (lenF r).2.2) else
    let c := r.drop (lenF r).2.1.toNat
    if (lenF r).1 > (c.length : Int) then ([], 13) else
    if nestB t = true then
      (if (dec f (c.take (lenF r).1.toNat) (d + 1)).2 ≠ 0 then ([], (dec f (c.take (lenF r).1.toNat) (d + 1)).2) else
        if (dec f (c.drop (lenF r).1.toNat) d).2 ≠ 0 then ([], (dec f (c.drop (lenF r).1.toNat) d).2) else
        (⟨t, [], (dec f (c.take (lenF r).1.toNat) (d + 1)).1⟩ :: (dec f (c.drop (lenF r).1.toNat) d).1, 0))
    else
      (if (dec f (c.drop (lenF r).1.toNat) d).2 ≠ 0 then ([], (dec f (c.drop (lenF r).1.toNat) d).2) else
        (⟨t, c.take (lenF r).1.toNat, []⟩ :: (dec f (c.drop (lenF r).1.toNat) d).1, 0))
/-- Of a length without an error: it lies in the bytes. -/
theorem lenF_ok (b : List Int) (hb : okB b) (h : (lenF b).2.2 = 0) : 0 ≤ (lenF b).1 ∧ (lenF b).1 < 65536 ∧ 1 ≤ (lenF b).2.1 ∧ (lenF b).2.1 ≤ 3 ∧ (lenF b).2.1 ≤ (b.length : Int) ∧ b.take (lenF b).2.1.toNat = hd (lenF b).1 ∧ (lenF b).2.1.toNat = (hd (lenF b).1).length := by
  match b, hb with
  | [], _ => simp [lenF] at h
  | b0 :: r, hb =>
    have h0 := hb b0 (by simp)
    by_cases h1 : b0 = 129
    · subst h1
      match r, hb with
      | [], _ => simp [lenF] at h
      | n :: r', hb =>
        have hn := hb n (by simp)
        simp only [lenF, if_true] at h ⊢
        by_cases c : n < 128
        · rw [if_pos c] at h; simp at h
        · rw [if_neg c]
          refine ⟨hn.1, by simp only []; omega, by simp, by simp, by simp only [List.length_cons]; omega, ?_, ?_⟩
          · simp only [hd]; rw [if_neg c, if_pos hn.2]; rfl
          · simp only [hd]; rw [if_neg c, if_pos hn.2]; rfl
    · by_cases h2 : b0 = 130
      · subst h2
        match r, hb with
        | [], _ => simp [lenF] at h
        | [_], _ => simp [lenF] at h
        | x :: y :: r', hb =>
          have hx := hb x (by simp)
          have hy := hb y (by simp)
          simp only [lenF] at h ⊢
          rw [if_neg (show ¬ (130 : Int) = 129 from by omega), if_pos trivial] at h ⊢
          by_cases c : x * 256 + y < 256
          · rw [if_pos c] at h; simp at h
          · rw [if_neg c]
            have e1 : (x * 256 + y) / 256 = x := by omega
            have e2 : (x * 256 + y) % 256 = y := by omega
            refine ⟨by simp only []; omega, by simp only []; omega, by simp, by simp, by simp only [List.length_cons]; omega, ?_, ?_⟩
            · simp only [hd]; rw [if_neg (by omega), if_neg c, e1, e2]; rfl
            · simp only [hd]; rw [if_neg (by omega), if_neg c, e1, e2]; rfl
      · simp only [lenF] at h ⊢
        rw [if_neg h1, if_neg h2] at h ⊢
        by_cases c : b0 > 127
        · rw [if_pos c] at h; simp at h
        · rw [if_neg c]
          refine ⟨h0.1, by simp only []; omega, by simp, by simp, by simp only [List.length_cons]; omega, ?_, ?_⟩
          · simp only [hd]; rw [if_pos (by omega)]; rfl
          · simp only [hd]; rw [if_pos (by omega)]; rfl
theorem okB_drop {l : List Int} (h : okB l) (n : Nat) : okB (l.drop n) := fun x hx => h x (List.mem_of_mem_drop hx)
theorem okB_take {l : List Int} (h : okB l) (n : Nat) : okB (l.take n) := fun x hx => h x (List.mem_of_mem_take hx)
end Go.Proofs.Ytafbnfpabcaebaa.Tlv
