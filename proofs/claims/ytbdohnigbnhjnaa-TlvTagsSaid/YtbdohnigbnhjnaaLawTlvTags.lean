/- TlvTags. No condition. -/
import Derived.Test.YtbdohnigbnhjnaaRows
import Derived.Test.YtbdohnigbnhjnaaTvOpen
import Derived.Test.YtbdohnigbnhjnaaTvL
import Derived.WalkKit
import Derived.ProofKit
import Derived.OpenShut
import Derived.ShutString
import Derived.ChangeOld
import Derived.Below
import Derived.ChangeSame
namespace Go.Proofs.Ytbdohnigbnhjnaa.tlvTags
open Go.ChangeShapes Go.WideShapes Go.ChangeAt Go.RowKit Go.Vk Go.Tv Go.Proofs.Ytbdohnigbnhjnaa.Vc
set_option linter.unusedVariables false
set_option linter.unusedSimpArgs false
theorem own : ownKnob Try.prog.godebug = none := by kernel_rfl
theorem laidOut : laidOutB Try.prog = true := by kernel_rfl
set_option maxRecDepth 100000 in
theorem lifted (os : Os) (started : os.Started) (H : Type) (enc : TypeId × Value → H) :
    ReturnsInHanded {} Try.checked os 3 .any (Rows.tlvTagsSpec.pre6 enc Try.prog Try.f3 Rows.tlvTagsRow.domain false) (Rows.tlvTagsSpec.post enc Try.prog Try.f3 false true false false) := by
  refine returnsInHanded_of_change (C := Try.checked) own started (by kernel_rfl) Try.func3
    (ChangeSpec.witness6 (enc := enc) (C := Try.checked) false ⟨#[], #[.int .i64 0, .slice none 0 0], []⟩ 8 (by kernel_rfl) (by kernel_rfl) (by kernel_rfl) (by kernel_rfl)) ?_
  intro W base args ds gs before hval0 hW hcnd _
  have hval : ∀ (j : Nat) t v, Try.f3.params[j]? = some t → args[j]? = some v → Value.okWide Try.prog W .any base t v := hval0
  have hW' := hW
  obtain ⟨p, q, hA0, hV, rfl, hfz, hnd⟩ := hW
  have hA : DataW.TrodAll enc Try.prog W 0 (fun _ => true) true Try.f3.params.toList args.toList ds p := hA0
  rw [Try.params3] at hA hval
  obtain ⟨v0, vs0, d0, ds0, p0, q0, hargs, rfl, rfl, h0, r0⟩ := trodAll_cons hA
  obtain ⟨v1, vs1, d1, ds1, p1, q1, rfl, rfl, rfl, h1, r1⟩ := trodAll_cons r0
  obtain ⟨rfl, rfl, rfl⟩ := trodAll_nil r1
  obtain rfl : args = #[v0, v1] := by cases args; simp_all
  obtain ⟨rfl, rfl⟩ := trodVars_none hV
  obtain ⟨n0, rfl⟩ := okWide_int Try.underlying3 (hval 0 3 v0 rfl rfl)
  have k0 := h0
  have lt0 : ∀ x ∈ p0, x.block < W.heap.size := by obtain ⟨m, hm⟩ := k0; exact DataW.trod_lt m _ _ _ hm
  obtain ⟨x0, e0, g0⟩ : ∃ x : Int, RepL (frOf W) W ([.int .i64 x]) (Value.cells (.int .i64 n0)).toList ∧ (Lit.int .i64 x).wf = true := by
    obtain ⟨fuel, hf⟩ := h0
    obtain ⟨a, r1, r2, _⟩ := (op_int (enc := enc) (P := Try.prog) Try.underlying3) W _ _ fuel _ _ (Nat.le_refl _) hf
    exact ⟨a, r1, r2⟩
  obtain ⟨a1, len1, cap1, rfl⟩ := okWide_slice Try.underlying22 (hval 1 22 v1 rfl rfl)
  have k1 := h1
  have lt1 : ∀ x ∈ p1, x.block < W.heap.size := by obtain ⟨m, hm⟩ := k1; exact DataW.trod_lt m _ _ _ hm
  obtain ⟨x1, e1, g1⟩ : ∃ x : List UInt8, RepL (frOf W) W ([.slice x.length (bs x)]) (Value.cells (.slice a1 len1 cap1)).toList ∧ x.length ≤ maxLen := by
    obtain ⟨fuel, hf⟩ := h1
    obtain ⟨a, r1, r2, _⟩ := (op_bytes enc _) W _ _ fuel _ _ (Nat.le_refl _) hf
    exact ⟨a, r1, r2⟩
  have hr : RepCs (frOf W) W [V.d (.int .i64 x0), V.d (.slice x1.length (bs x1))] [.int .i64 n0, .slice a1 len1 cap1] [] :=
    ⟨_, _, [], [], rfl, rfl, rep_data e0 (by intro cs h; cases h), _, _, [], [], rfl, rfl, rep_data e1 (by intro cs h; cases h), rfl, rfl⟩
  refine (law_of_TC (tc3 x0 x1) hr).mono fun e W' ⟨he, bel⟩ => ?_
  subst he
  exact ⟨_, rfl, _, _, _, [], _, [], hW', trodAll_mk1 (shut_bool Try.underlying4 _), (trodAll_cons_mk (Below.trod laidOut (by kernel_rfl) (of_decide_eq_true (by kernel_rfl)) k0 bel lt0) (trodAll_cons_mk (Below.trod laidOut (by kernel_rfl) (of_decide_eq_true (by kernel_rfl)) k1 bel lt1) trodAll_mk0)), rfl, bel.frame _, fun h => by cases h⟩
theorem over : Rows.tlvTagsRow.holds Try.pinned (OpenSpec.ofChange Rows.tlvTagsSpec) :=
  OpenClaim.holds_of_wide 3 Try.f3 rfl rfl rfl rfl rfl rfl rfl ⟨rfl, rfl, rfl, rfl, rfl⟩ rfl rfl rfl rfl rfl (by kernel_rfl) Try.func3 (by kernel_rfl)
    (of_decide_eq_true (by kernel_rfl)) (by unfold Func.isWrapper; first | (rw [if_pos (by decide +kernel)]; kernel_rfl) | (rw [if_neg (by decide +kernel)]; exact ⟨rfl, rfl⟩))
    (fun os started H enc _ => lifted os started H enc)
theorem proved : Rows.TlvTagsSaid := over
#print axioms proved
end Go.Proofs.Ytbdohnigbnhjnaa.tlvTags
namespace Go.Proofs.Ytbdohnigbnhjnaa
/-- The row, under a short name, for the claim. -/
theorem tlvTags_holds : Rows.TlvTagsSaid := tlvTags.proved
end Go.Proofs.Ytbdohnigbnhjnaa
