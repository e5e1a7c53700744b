/- SubscriberNeverBack. No condition. -/
import Derived.Test.YtokbcminleemaaaRows
import Derived.Test.YtokbcminleemaaaTrA
import Derived.Test.YtokbcminleemaaaTsF
import Derived.WalkKit
import Derived.ProofKit
import Derived.OpenShut
import Derived.ShutString
import Derived.ChangeOld
import Derived.Below
import Derived.ChangeSame
namespace Go.Proofs.Ytokbcminleemaaa.subscriberNeverBack
open Go.ChangeShapes Go.WideShapes Go.ChangeAt Go.RowKit Go.Vk Go.Tv Go.Proofs.Ytokbcminleemaaa.Vc
set_option linter.unusedVariables false
set_option linter.unusedSimpArgs false
theorem own : ownKnob Try.prog.godebug = none := by kernel_rfl
theorem laidOut : laidOutB Try.prog = true := by kernel_rfl
set_option maxRecDepth 100000 in
theorem lifted (os : Os) (started : os.Started) (H : Type) (enc : TypeId × Value → H) :
    ReturnsInHanded {} Try.checked os 8 .any (Rows.subscriberNeverBackSpec.pre6 enc Try.prog Try.f8 Rows.subscriberNeverBackRow.domain false) (Rows.subscriberNeverBackSpec.post enc Try.prog Try.f8 false true false false) := by
  refine returnsInHanded_of_change (C := Try.checked) own started (by kernel_rfl) Try.func8
    (ChangeSpec.witness6 (enc := enc) (C := Try.checked) false ⟨#[], #[.slice none 0 0], []⟩ 8 (by kernel_rfl) (by kernel_rfl) (by kernel_rfl) (by kernel_rfl)) ?_
  intro W base args ds gs before hval0 hW hcnd _
  have hval : ∀ (j : Nat) t v, Try.f8.params[j]? = some t → args[j]? = some v → Value.okWide Try.prog W .any base t v := hval0
  have hW' := hW
  obtain ⟨p, q, hA0, hV, rfl, hfz, hnd⟩ := hW
  have hA : DataW.TrodAll enc Try.prog W 0 (fun _ => true) true Try.f8.params.toList args.toList ds p := hA0
  rw [Try.params8] at hA hval
  obtain ⟨v0, vs0, d0, ds0, p0, q0, hargs, rfl, rfl, h0, r0⟩ := trodAll_cons hA
  obtain ⟨rfl, rfl, rfl⟩ := trodAll_nil r0
  obtain rfl : args = #[v0] := by cases args; simp_all
  obtain ⟨rfl, rfl⟩ := trodVars_none hV
  obtain ⟨a0, len0, cap0, rfl⟩ := okWide_slice Try.underlying22 (hval 0 22 v0 rfl rfl)
  have k0 := h0
  have lt0 : ∀ x ∈ p0, x.block < W.heap.size := by obtain ⟨m, hm⟩ := k0; exact DataW.trod_lt m _ _ _ hm
  obtain ⟨x0, e0, g0⟩ : ∃ x : List EV, RepL (frOf W) W ([.slice x.length (EVDs x)]) (Value.cells (.slice a0 len0 cap0)).toList ∧ x.length ≤ maxLen := by
    obtain ⟨fuel, hf⟩ := h0
    obtain ⟨a, r1, r2, _⟩ := (op_evs enc _) W _ _ fuel _ _ (Nat.le_refl _) hf
    exact ⟨a, r1, r2⟩
  have hr : RepCs (frOf W) W [V.d (.slice x0.length (EVDs x0))] [.slice a0 len0 cap0] [] :=
    ⟨_, _, [], [], rfl, rfl, rep_data e0 (by intro cs h; cases h), rfl, rfl⟩
  refine (law_of_TC (tc14NeverBack x0 (by unfold maxLen at g0; omega)) hr).mono fun e W' ⟨he, bel⟩ => ?_
  subst he
  exact ⟨_, rfl, _, _, _, [], _, [], hW', trodAll_mk1 (shut_bool Try.underlying4 _), (trodAll_cons_mk (Below.trod laidOut (by kernel_rfl) (of_decide_eq_true (by kernel_rfl)) k0 bel lt0) trodAll_mk0), rfl, bel.frame _, fun h => by cases h⟩
theorem over : Rows.subscriberNeverBackRow.holds Try.pinned (OpenSpec.ofChange Rows.subscriberNeverBackSpec) :=
  OpenClaim.holds_of_wide 8 Try.f8 rfl rfl rfl rfl rfl rfl rfl ⟨rfl, rfl, rfl, rfl, rfl⟩ rfl rfl rfl rfl rfl (by kernel_rfl) Try.func8 (by kernel_rfl)
    (of_decide_eq_true (by kernel_rfl)) (by unfold Func.isWrapper; first | (rw [if_pos (by decide +kernel)]; kernel_rfl) | (rw [if_neg (by decide +kernel)]; exact ⟨rfl, rfl⟩))
    (fun os started H enc _ => lifted os started H enc)
theorem proved : Rows.SubscriberNeverBackSaid := over
#print axioms proved
end Go.Proofs.Ytokbcminleemaaa.subscriberNeverBack
namespace Go.Proofs.Ytokbcminleemaaa
/-- The row, under a short name, for the claim. -/
theorem subscriberNeverBack_holds : Rows.SubscriberNeverBackSaid := subscriberNeverBack.proved
end Go.Proofs.Ytokbcminleemaaa
