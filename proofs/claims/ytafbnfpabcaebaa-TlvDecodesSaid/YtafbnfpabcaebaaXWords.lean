import Derived.Test.YtafbnfpabcaebaaProg
import Derived.Lib.LazyBuf
import Derived.ScopeJumps
import Derived.WalkMore
import Derived.Test.YtafbnfpabcaebaaVMore
import Derived.Test.YtafbnfpabcaebaaVN
import Derived.Test.YtafbnfpabcaebaaVLast
/-! Words of this session beside the print's: a cut with a capacity; a scope whose label is its loop's head. -/
namespace Go.Proofs.YtafbnfpabcaebaaW.PrintWords
open Go.RowKit
section
variable {P : Program}
/-- 'xs[:j:j]'. -/
theorem cut_to3 (t e : TypeId) (kh : IntKind) {i : TypeInfo} (ht : P.underlying t = some (.slice e)) (hi : P.info? e = some i) (A : Option Addr) (n c : Nat) (j : Int) (h0 : 0 ≤ j) (hm : j ≤ n) (hc : n ≤ c) :
    ∀ W : World, (Instr.slice t (.slice A n c) none (some (.int kh j)) (some (.int kh j))).run P W = .ok (.slice A j.toNat j.toNat) W := by
  intro W
  have hel : P.elem t = e := by simp [Program.elem, ht]
  have hu : P.underlying t = some (.slice (P.elem t)) := by rw [hel]; exact ht
  have h2 : j ≤ (c : Int) := by omega
  have hjj : j ≤ ((j.toNat : Nat) : Int) := by omega
  have hsb : (Instr.sliceBounds true n c none (some (.int kh j)) (some (.int kh j))).run P W = .ok (0, j.toNat, j.toNat) W := by
    simp [Instr.sliceBounds, run_sliceBound W kh j c _ h0 h2, run_sliceBound W kh j j.toNat _ h0 hjj]
  rw [run_slice_any W t A n c hu, hsb, hel]
  have ha : (A.map fun x => x.add 0) = A := by cases A <;> simp [Addr.add]
  simp [sizeOf, typeInfo, hi, sliced, Result.andThen, ha]
end
section
variable {P : Program} {a : Act} {w : World} {Q : Exit → Act → World → Prop}
/-- A scope whose one label is the head of a loop by goto: an invariant that bears a number, which each pass lowers. -/
theorem wp_scope_ghost {c rest : Code} (l : Nat) (I : Nat → Act → World → Prop) (n₀ : Nat) (hf : findLabel c l = some rest)
    (pass : ∀ n a w, I n a w → rest.wp P (Exit.jump l (fun a' w' => ∃ n', n' < n ∧ I n' a' w') Q) a w)
    (first : (∀ a w, I n₀ a w → rest.wp P (Exit.jump l (fun a' w' => ∃ n', n' < n₀ ∧ I n' a' w') Q) a w) → c.wp P (Exit.jump l (fun a' w' => ∃ n', n' < n₀ ∧ I n' a' w') Q) a w) : (Code.scope c).wp P Q a w := by
  refine wp_scope_jumps l (fun a w => ∃ n, I n a w) (fun a w => leastOf (fun n => I n a w)) hf ?_ ?_
  · refine wp_mono (first (fun a w h => pass n₀ a w h)) ?_
    intro e a' w' hq
    cases e with
    | goto l' =>
      obtain ⟨rfl, n', _, hI⟩ := hq
      exact ⟨rfl, n', hI⟩
    | normal => exact hq
    | exit id => exact hq
    | ret => exact hq
    | panic ch => exact hq
    | outgrown => exact hq
  · intro a w hI
    refine wp_mono (pass _ a w (leastOf_spec hI).1) ?_
    intro e a' w' hq
    cases e with
    | goto l' =>
      obtain ⟨rfl, n', hlt, hI'⟩ := hq
      exact ⟨rfl, ⟨n', hI'⟩, Nat.lt_of_le_of_lt ((leastOf_spec ⟨n', hI'⟩).2 n' hI') hlt⟩
    | normal => exact hq
    | exit id => exact hq
    | ret => exact hq
    | panic ch => exact hq
    | outgrown => exact hq
/-- The same, what a pass must hand on behind a letter. -/
theorem wp_scope_ghostQ {c rest : Code} (l : Nat) (I : Nat → Act → World → Prop) (n₀ : Nat) (hf : findLabel c l = some (Code.skip.seq rest))
    (pass : ∀ n a w (J : Act → World → Prop), Aside0 (∀ n' a' w', n' < n → I n' a' w' → J a' w') → I n a w → rest.wp P (Exit.jump l J Q) a w)
    (first : ∀ J : Act → World → Prop, Aside0 (∀ a w, I n₀ a w → rest.wp P (Exit.jump l J Q) a w) → c.wp P (Exit.jump l J Q) a w) : (Code.scope c).wp P Q a w :=
  have pass' : ∀ n a w, I n a w → rest.wp P (Exit.jump l (fun a' w' => ∃ n', n' < n ∧ I n' a' w') Q) a w := fun n a w h => pass n a w _ ⟨fun n' _ _ hlt hI => ⟨n', hlt, hI⟩⟩ h
  wp_scope_ghost l I n₀ hf (fun n a w h => wp_seq (wp_skip (pass' n a w h))) (fun _ => first _ ⟨fun a w h => pass' n₀ a w h⟩)
theorem jump_ret {l : Nat} {J : Act → World → Prop} (h : Q .ret a w) : Exit.jump l J Q .ret a w := h
theorem jump_goto {l : Nat} {J : Act → World → Prop} (h : J a w) : Exit.jump l J Q (.goto l) a w := ⟨rfl, h⟩
end
end Go.Proofs.YtafbnfpabcaebaaW.PrintWords
