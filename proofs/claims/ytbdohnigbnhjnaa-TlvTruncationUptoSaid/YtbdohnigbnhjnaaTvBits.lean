/- Bits of numbers. -/
import Derived.Test.YtbdohnigbnhjnaaVkSimp
set_option linter.unusedSimpArgs false
set_option linter.unusedVariables false
set_option linter.unusedSectionVars false
namespace Go.Tv
open Go Go.Vk
theorem wrap_signed (x : Int) : IntKind.i64.wrap x = (x + 9223372036854775808) % 18446744073709551616 - 9223372036854775808 := by
  unfold IntKind.wrap
  simp [IntKind.signed, IntKind.bits]
  split <;> omega
theorem ofInt_toNat (x : Int) : ((BitVec.ofInt 64 x).toNat : Int) = x % 18446744073709551616 := by
  simp [BitVec.toNat_ofInt]
  omega
/-- A byte behind a number. -/
theorem bor_byte {x c : Int} (h : -9223372036854775808 ≤ x ∧ x < 9223372036854775808) (hx : x % 256 = 0) (hc : 0 ≤ c ∧ c < 256) : bor x c = x + c := by
  unfold bor
  have e1 := ofInt_toNat x
  have e2 := ofInt_toNat c
  have e3 : (BitVec.ofInt 64 x ||| BitVec.ofInt 64 c).toNat = (BitVec.ofInt 64 x).toNat + (BitVec.ofInt 64 c).toNat := by
    rw [BitVec.toNat_or]
    obtain ⟨q, hq⟩ : ∃ q, (BitVec.ofInt 64 x).toNat = q * 2 ^ 8 := ⟨(BitVec.ofInt 64 x).toNat / 256, by omega⟩
    rw [hq, ← Nat.shiftLeft_eq, Nat.shiftLeft_add_eq_or_of_lt (by omega)]
  show IntKind.i64.wrap ((BitVec.ofInt 64 x ||| BitVec.ofInt 64 c).toNat : Int) = _
  rw [wrap_signed, e3]
  omega
theorem wu8 (b : UInt8) : IntKind.i64.wrap (b.toNat : Int) = b.toNat := by
  have := b.toNat_lt
  exact w64_of (by omega)
theorem tmod_adj (n m : Int) (hm : 0 < m) : (n.tmod m < 0 → n.tmod m + m = n % m) ∧ (¬ n.tmod m < 0 → n.tmod m = n % m) := by
  have e := Int.mul_tdiv_add_tmod n m
  have h1 := Int.tmod_lt_of_pos n hm
  have h2 := Int.lt_tmod_of_pos n hm
  have h3 : n % m = (n.tmod m) % m := by
    have := Int.add_mul_emod_self_left (n.tmod m) m (n.tdiv m)
    rw [Int.add_comm, e] at this
    exact this
  refine ⟨fun h => ?_, fun h => ?_⟩
  · rw [h3, ← Int.add_emod_right, Int.emod_eq_of_lt (by omega) (by omega)]
  · rw [h3, Int.emod_eq_of_lt (by omega) (by omega)]
end Go.Tv
