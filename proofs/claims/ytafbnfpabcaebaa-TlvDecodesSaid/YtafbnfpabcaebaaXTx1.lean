/- Written by xprint.py, a program of this session over the kit's print: what functions of the program come to, walked. -/
import Derived.Test.YtafbnfpabcaebaaXTx0
namespace Go.Proofs.Ytafbnfpabcaebaa.XT
open Go.RowKit Go.Proofs.YtafbnfpabcaebaaW.PrintWords Go.Proofs.YtafbnfpabcaebaaW.PrintLast Go.Proofs.YtafbnfpabcaebaaW.PrintMore
attribute [local go_sem] max2_int min2_int max_two min_two max_three min_three max_four min_four   -- for this text's walks alone
set_option linter.unusedVariables false
set_option linter.unusedSimpArgs false

/-! ### tlv_Nested: function 13 -/
def tlv_Nested.f (a0 : Int) : Option (Bool) := some ((Go.bits .and .i64 a0 32) != 0)
set_option maxHeartbeats 8000000 in
set_option maxRecDepth 100000 in
theorem tlv_Nested.calls (a0 : Int) (r : Bool) (w : World) (h : tlv_Nested.f a0 = some r) :
  Calls Try.prog 13 #[.int .i64 a0] w fun e w' => e = .returned (.bool r) ∧ Drawn0 w w' := by
 have H : (some ((Go.bits .and .i64 a0 32) != 0)) = some r := h
 clear h
 obtain rfl := Option.some.inj H
 go_enter Try.func13, Try.ntmps13
 go_wp2
 go_ret
 exact ⟨by first | rfl | (simp; done) | (simp [*]; done), by repeat (first | exact Drawn0.refl _ | apply Drawn0.step)⟩

/-! ### tlv_tag: function 37 -/
def tlv_tag.f (a0 : Int) : Option (Bool) := if a0 ≥ 1 then (if a0 ≤ 254 then (some ((Go.bits .and .i64 a0 31) != 31)) else (some false)) else (some false)
set_option maxHeartbeats 8000000 in
set_option maxRecDepth 100000 in
theorem tlv_tag.calls (a0 : Int) (r : Bool) (w : World) (h : tlv_tag.f a0 = some r) :
  Calls Try.prog 37 #[.int .i64 a0] w fun e w' => e = .returned (.bool r) ∧ Drawn0 w w' := by
 have H : (if a0 ≥ 1 then (if a0 ≤ 254 then (some ((Go.bits .and .i64 a0 31) != 31)) else (some false)) else (some false)) = some r := h
 clear h
 by_cases c2 : a0 ≥ 1
 ·rw [if_pos c2] at H
  have c2b0 : decide (1 ≤ a0) = true := decide_eq_true c2
  clear c2
  by_cases c3 : a0 ≤ 254
  ·rw [if_pos c3] at H
   have c3b0 : decide (a0 ≤ 254) = true := decide_eq_true c3
   clear c3
   obtain rfl := Option.some.inj H
   go_enter Try.func37, Try.ntmps37
   go_wp2
   go_ret
   exact ⟨by first | rfl | (simp; done) | (simp [*]; done), by repeat (first | exact Drawn0.refl _ | apply Drawn0.step)⟩
  ·rw [if_neg c3] at H
   have c3b0 : decide (a0 ≤ 254) = false := decide_eq_false c3
   clear c3
   obtain rfl := Option.some.inj H
   go_enter Try.func37, Try.ntmps37
   go_wp2
   go_ret
   exact ⟨by first | rfl | (simp; done) | (simp [*]; done), by repeat (first | exact Drawn0.refl _ | apply Drawn0.step)⟩
 ·rw [if_neg c2] at H
  have c2b0 : decide (1 ≤ a0) = false := decide_eq_false c2
  clear c2
  obtain rfl := Option.some.inj H
  go_enter Try.func37, Try.ntmps37
  go_wp2
  go_ret
  exact ⟨by first | rfl | (simp; done) | (simp [*]; done), by repeat (first | exact Drawn0.refl _ | apply Drawn0.step)⟩

end Go.Proofs.Ytafbnfpabcaebaa.XT
