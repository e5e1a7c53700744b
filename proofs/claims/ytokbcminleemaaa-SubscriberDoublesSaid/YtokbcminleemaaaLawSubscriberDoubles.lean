/- SubscriberDoubles. No condition. -/
import Derived.Test.YtokbcminleemaaaRows
import Derived.Test.YtokbcminleemaaaTrA
import Derived.Test.YtokbcminleemaaaTsE
import Derived.WalkKit
import Derived.ProofKit
import Derived.OpenShut
import Derived.ShutString
import Derived.ChangeOld
import Derived.Below
import Derived.ChangeSame
namespace Go.Proofs.Ytokbcminleemaaa.subscriberDoubles
open Go.ChangeShapes Go.WideShapes Go.ChangeAt Go.RowKit Go.Vk Go.Tv Go.Proofs.Ytokbcminleemaaa.Vc
set_option linter.unusedVariables false
set_option linter.unusedSimpArgs false
theorem own : ownKnob Try.prog.godebug = none := by kernel_rfl
theorem laidOut : laidOutB Try.prog = true := by kernel_rfl
set_option maxRecDepth 100000 in
theorem lifted (os : Os) (started : os.Started) (H : Type) (enc : TypeId × Value → H) :
    ReturnsInHanded {} Try.checked os 9 .any (Rows.subscriberDoublesSpec.pre6 enc Try.prog Try.f9 Rows.subscriberDoublesRow.domain false) (Rows.subscriberDoublesSpec.post enc Try.prog Try.f9 false true false false) := by
  refine returnsInHanded_of_change (C := Try.checked) own started (by kernel_rfl) Try.func9
    (ChangeSpec.witness6 (enc := enc) (C := Try.checked) false ⟨#[], #[.slice none 0 0, .agg #[.int .i64 0, .int .i64 0, .int .i64 0, .bool false, .bool false, .bool false]], []⟩ 8 (by kernel_rfl) (by kernel_rfl) (by kernel_rfl) (by kernel_rfl)) ?_
  intro W base args ds gs before hval0 hW hcnd _
  have hval : ∀ (j : Nat) t v, Try.f9.params[j]? = some t → args[j]? = some v → Value.okWide Try.prog W .any base t v := hval0
  have hW' := hW
  obtain ⟨p, q, hA0, hV, rfl, hfz, hnd⟩ := hW
  have hA : DataW.TrodAll enc Try.prog W 0 (fun _ => true) true Try.f9.params.toList args.toList ds p := hA0
  rw [Try.params9] at hA hval
  obtain ⟨v0, vs0, d0, ds0, p0, q0, hargs, rfl, rfl, h0, r0⟩ := trodAll_cons hA
  obtain ⟨v1, vs1, d1, ds1, p1, q1, rfl, rfl, rfl, h1, r1⟩ := trodAll_cons r0
  obtain ⟨rfl, rfl, rfl⟩ := trodAll_nil r1
  obtain rfl : args = #[v0, v1] := by cases args; simp_all
  obtain ⟨rfl, rfl⟩ := trodVars_none hV
  obtain ⟨a0, len0, cap0, rfl⟩ := okWide_slice Try.underlying22 (hval 0 22 v0 rfl rfl)
  have k0 := h0
  have lt0 : ∀ x ∈ p0, x.block < W.heap.size := by obtain ⟨m, hm⟩ := k0; exact DataW.trod_lt m _ _ _ hm
  obtain ⟨x0, e0, g0⟩ : ∃ x : List EV, RepL (frOf W) W ([.slice x.length (EVDs x)]) (Value.cells (.slice a0 len0 cap0)).toList ∧ x.length ≤ maxLen := by
    obtain ⟨fuel, hf⟩ := h0
    obtain ⟨a, r1, r2, _⟩ := (op_evs enc _) W _ _ fuel _ _ (Nat.le_refl _) hf
    exact ⟨a, r1, r2⟩
  obtain ⟨u1, rfl, _⟩ := okWide_struct Try.underlying33 (hval 1 33 v1 rfl rfl)
  have k1 := h1
  have lt1 : ∀ x ∈ p1, x.block < W.heap.size := by obtain ⟨m, hm⟩ := k1; exact DataW.trod_lt m _ _ _ hm
  obtain ⟨x1, e1, g1⟩ : ∃ x : EV, RepL (frOf W) W (EVD x) (Value.cells (.agg u1)).toList ∧ True := by
    obtain ⟨fuel, hf⟩ := h1
    obtain ⟨a, r1, r2, _⟩ := (op_ev enc _) W _ _ fuel _ _ (Nat.le_refl _) hf
    exact ⟨a, r1, r2⟩
  have hr : RepCs (frOf W) W [V.d (.slice x0.length (EVDs x0)), V.agg ((EVD x1).map .d)] [.slice a0 len0 cap0, .agg u1] [] :=
    ⟨_, _, [], [], rfl, rfl, rep_data e0 (by intro cs h; cases h), _, _, [], [], rfl, rfl, rep_agg e1, rfl, rfl⟩
  refine (law_of_TC (tc14Doubles x0 x1 (by unfold maxLen at g0; omega)) hr).mono fun e W' ⟨he, bel⟩ => ?_
  subst he
  exact ⟨_, rfl, _, _, _, [], _, [], hW', trodAll_mk1 (shut_bool Try.underlying4 _), (trodAll_cons_mk (Below.trod laidOut (by kernel_rfl) (of_decide_eq_true (by kernel_rfl)) k0 bel lt0) (trodAll_cons_mk (Below.trod laidOut (by kernel_rfl) (of_decide_eq_true (by kernel_rfl)) k1 bel lt1) trodAll_mk0)), rfl, bel.frame _, fun h => by cases h⟩
theorem over : Rows.subscriberDoublesRow.holds Try.pinned (OpenSpec.ofChange Rows.subscriberDoublesSpec) :=
  OpenClaim.holds_of_wide 9 Try.f9 rfl rfl rfl rfl rfl rfl rfl ⟨rfl, rfl, rfl, rfl, rfl⟩ rfl rfl rfl rfl rfl (by kernel_rfl) Try.func9 (by kernel_rfl)
    (of_decide_eq_true (by kernel_rfl)) (by unfold Func.isWrapper; first | (rw [if_pos (by decide +kernel)]; kernel_rfl) | (rw [if_neg (by decide +kernel)]; exact ⟨rfl, rfl⟩))
    (fun os started H enc _ => lifted os started H enc)
theorem proved : Rows.SubscriberDoublesSaid := over
#print axioms proved
end Go.Proofs.Ytokbcminleemaaa.subscriberDoubles
namespace Go.Proofs.Ytokbcminleemaaa
/-- The row, under a short name, for the claim. -/
theorem subscriberDoubles_holds : Rows.SubscriberDoublesSaid := subscriberDoubles.proved
end Go.Proofs.Ytokbcminleemaaa
