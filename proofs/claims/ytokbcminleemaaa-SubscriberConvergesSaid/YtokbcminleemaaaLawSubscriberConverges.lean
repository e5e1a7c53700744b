/- SubscriberConverges. No condition. -/
import Derived.Test.YtokbcminleemaaaRows
import Derived.Test.YtokbcminleemaaaTrB
import Derived.Test.YtokbcminleemaaaTwD
import Derived.WalkKit
import Derived.ProofKit
import Derived.OpenShut
import Derived.ShutString
import Derived.ChangeOld
import Derived.Below
import Derived.ChangeSame
namespace Go.Proofs.Ytokbcminleemaaa.subscriberConverges
open Go.ChangeShapes Go.WideShapes Go.ChangeAt Go.RowKit Go.Vk Go.Tv Go.Proofs.Ytokbcminleemaaa.Vc
set_option linter.unusedVariables false
set_option linter.unusedSimpArgs false
theorem own : ownKnob Try.prog.godebug = none := by kernel_rfl
theorem laidOut : laidOutB Try.prog = true := by kernel_rfl
set_option maxRecDepth 100000 in
theorem lifted (os : Os) (started : os.Started) (H : Type) (enc : TypeId × Value → H) :
    ReturnsInHanded {} Try.checked os 13 .any (Rows.subscriberConvergesSpec.pre6 enc Try.prog Try.f13 Rows.subscriberConvergesRow.domain false) (Rows.subscriberConvergesSpec.post enc Try.prog Try.f13 false true false false) := by
  refine returnsInHanded_of_change (C := Try.checked) own started (by kernel_rfl) Try.func13
    (ChangeSpec.witness6 (enc := enc) (C := Try.checked) false ⟨#[], #[.slice none 0 0, .slice none 0 0, .int .i64 0], []⟩ 8 (by kernel_rfl) (by kernel_rfl) (by kernel_rfl) (by kernel_rfl)) ?_
  intro W base args ds gs before hval0 hW hcnd _
  have hval : ∀ (j : Nat) t v, Try.f13.params[j]? = some t → args[j]? = some v → Value.okWide Try.prog W .any base t v := hval0
  have hW' := hW
  obtain ⟨p, q, hA0, hV, rfl, hfz, hnd⟩ := hW
  have hA : DataW.TrodAll enc Try.prog W 0 (fun _ => true) true Try.f13.params.toList args.toList ds p := hA0
  rw [Try.params13] at hA hval
  obtain ⟨v0, vs0, d0, ds0, p0, q0, hargs, rfl, rfl, h0, r0⟩ := trodAll_cons hA
  obtain ⟨v1, vs1, d1, ds1, p1, q1, rfl, rfl, rfl, h1, r1⟩ := trodAll_cons r0
  obtain ⟨v2, vs2, d2, ds2, p2, q2, rfl, rfl, rfl, h2, r2⟩ := trodAll_cons r1
  obtain ⟨rfl, rfl, rfl⟩ := trodAll_nil r2
  obtain rfl : args = #[v0, v1, v2] := by cases args; simp_all
  obtain ⟨rfl, rfl⟩ := trodVars_none hV
  obtain ⟨a0, len0, cap0, rfl⟩ := okWide_slice Try.underlying59 (hval 0 59 v0 rfl rfl)
  have k0 := h0
  have lt0 : ∀ x ∈ p0, x.block < W.heap.size := by obtain ⟨m, hm⟩ := k0; exact DataW.trod_lt m _ _ _ hm
  obtain ⟨x0, e0, g0⟩ : ∃ x : List IP, RepL (frOf W) W ([.slice x.length (IPDs x)]) (Value.cells (.slice a0 len0 cap0)).toList ∧ x.length ≤ maxLen ∧ ∀ y ∈ x, okI y.w ∧ okI y.s := by
    obtain ⟨fuel, hf⟩ := h0
    obtain ⟨a, r1, r2, _⟩ := (op_ips enc _) W _ _ fuel _ _ (Nat.le_refl _) hf
    exact ⟨a, r1, r2⟩
  obtain ⟨a1, len1, cap1, rfl⟩ := okWide_slice Try.underlying85 (hval 1 85 v1 rfl rfl)
  have k1 := h1
  have lt1 : ∀ x ∈ p1, x.block < W.heap.size := by obtain ⟨m, hm⟩ := k1; exact DataW.trod_lt m _ _ _ hm
  obtain ⟨x1, e1, g1⟩ : ∃ x : List Bool, RepL (frOf W) W ([.slice x.length (x.flatMap fun b => [.bool b])]) (Value.cells (.slice a1 len1 cap1)).toList ∧ x.length ≤ maxLen := by
    obtain ⟨fuel, hf⟩ := h1
    obtain ⟨a, r1, r2, _⟩ := (op_bools enc _) W _ _ fuel _ _ (Nat.le_refl _) hf
    exact ⟨a, r1, r2⟩
  obtain ⟨n2, rfl⟩ := okWide_int Try.underlying3 (hval 2 3 v2 rfl rfl)
  have k2 := h2
  have lt2 : ∀ x ∈ p2, x.block < W.heap.size := by obtain ⟨m, hm⟩ := k2; exact DataW.trod_lt m _ _ _ hm
  obtain ⟨x2, e2, g2⟩ : ∃ x : Int, RepL (frOf W) W ([.int .i64 x]) (Value.cells (.int .i64 n2)).toList ∧ (Lit.int .i64 x).wf = true := by
    obtain ⟨fuel, hf⟩ := h2
    obtain ⟨a, r1, r2, _⟩ := (op_int (enc := enc) (P := Try.prog) Try.underlying3) W _ _ fuel _ _ (Nat.le_refl _) hf
    exact ⟨a, r1, r2⟩
  have hr : RepCs (frOf W) W [V.d (.slice x0.length (IPDs x0)), V.d (.slice x1.length (x1.flatMap fun b => [.bool b])), V.d (.int .i64 x2)] [.slice a0 len0 cap0, .slice a1 len1 cap1, .int .i64 n2] [] :=
    ⟨_, _, [], [], rfl, rfl, rep_data e0 (by intro cs h; cases h), _, _, [], [], rfl, rfl, rep_data e1 (by intro cs h; cases h), _, _, [], [], rfl, rfl, rep_data e2 (by intro cs h; cases h), rfl, rfl⟩
  refine (law_of_TC (tc14Converges x0 x1 x2 (by have := g0.1; rw [maxLen] at this; omega) (by have := g1; rw [maxLen] at this; omega)) hr).mono fun e W' ⟨he, bel⟩ => ?_
  subst he
  exact ⟨_, rfl, _, _, _, [], _, [], hW', trodAll_mk1 (shut_bool Try.underlying4 _), (trodAll_cons_mk (Below.trod laidOut (by kernel_rfl) (of_decide_eq_true (by kernel_rfl)) k0 bel lt0) (trodAll_cons_mk (Below.trod laidOut (by kernel_rfl) (of_decide_eq_true (by kernel_rfl)) k1 bel lt1) (trodAll_cons_mk (Below.trod laidOut (by kernel_rfl) (of_decide_eq_true (by kernel_rfl)) k2 bel lt2) trodAll_mk0))), rfl, bel.frame _, fun h => by cases h⟩
theorem over : Rows.subscriberConvergesRow.holds Try.pinned (OpenSpec.ofChange Rows.subscriberConvergesSpec) :=
  OpenClaim.holds_of_wide 13 Try.f13 rfl rfl rfl rfl rfl rfl rfl ⟨rfl, rfl, rfl, rfl, rfl⟩ rfl rfl rfl rfl rfl (by kernel_rfl) Try.func13 (by kernel_rfl)
    (of_decide_eq_true (by kernel_rfl)) (by unfold Func.isWrapper; first | (rw [if_pos (by decide +kernel)]; kernel_rfl) | (rw [if_neg (by decide +kernel)]; exact ⟨rfl, rfl⟩))
    (fun os started H enc _ => lifted os started H enc)
theorem proved : Rows.SubscriberConvergesSaid := over
#print axioms proved
end Go.Proofs.Ytokbcminleemaaa.subscriberConverges
namespace Go.Proofs.Ytokbcminleemaaa
/-- The row, under a short name, for the claim. -/
theorem subscriberConverges_holds : Rows.SubscriberConvergesSaid := subscriberConverges.proved
end Go.Proofs.Ytokbcminleemaaa
