/- TlvTruncation. No condition. -/
import Derived.Test.YtbdohnigbnhjnaaRows
import Derived.Test.YtbdohnigbnhjnaaTvOpen
import Derived.Test.YtbdohnigbnhjnaaTvN
import Derived.WalkKit
import Derived.ProofKit
import Derived.OpenShut
import Derived.ShutString
import Derived.ChangeOld
import Derived.Below
import Derived.ChangeSame
import Derived.Deep.CondSized
import Derived.JoinedCond
namespace Go.Proofs.Ytbdohnigbnhjnaa.tlvTruncation
open Go.ChangeShapes Go.WideShapes Go.ChangeAt Go.RowKit Go.Vk Go.Tv Go.Proofs.Ytbdohnigbnhjnaa.Vc
set_option linter.unusedVariables false
set_option linter.unusedSimpArgs false
theorem own : ownKnob Try.prog.godebug = none := by kernel_rfl
theorem laidOut : laidOutB Try.prog = true := by kernel_rfl
theorem bulk_app {H : Type} : ∀ (a b : List (DataW H)), Rows.uptoBulkAll (a ++ b) = Rows.uptoBulkAll a + Rows.uptoBulkAll b
  | [], b => by simp [Rows.uptoBulkAll]
  | x :: r, b => by simp only [List.cons_append, Rows.uptoBulkAll, bulk_app r b]; omega
set_option maxRecDepth 100000 in
theorem lifted (os : Os) (started : os.Started) (H : Type) (enc : TypeId × Value → H) (F : Stop.Interp) :
    ReturnsInHanded {} Try.checked os 4 .any ((Rows.OpenSpec.upto Rows.tlvTruncationSpec).pre6 enc Try.prog Try.f4 Rows.tlvTruncationUptoRow.domain false) (((Rows.OpenSpec.upto Rows.tlvTruncationSpec).at F).post enc Try.prog Try.f4 false true false false) := by
  refine returnsInHanded_of_cond (C := Try.checked) (s := Rows.OpenSpec.upto Rows.tlvTruncationSpec) (k := Rows.uptoSmall) rfl own started (by kernel_rfl) Try.func4
    (OpenSpec.witness (enc := enc) (C := Try.checked) (s := Rows.OpenSpec.upto Rows.tlvTruncationSpec) (k := Rows.uptoSmall) rfl false ⟨#[], #[.agg #[.int .i64 0, .slice none 0 0, .slice none 0 0], .int .i64 0], []⟩ 8 (by kernel_rfl) (by kernel_rfl) (by kernel_rfl)
      (x := ([.agg [.lit (.int .i64 0), .nil, .nil], .lit (.int .i64 0)], [], [])) (by kernel_rfl) rfl (by kernel_rfl)) ?_
  intro W base args ds gs before hval0 hW _ hk _
  have hval : ∀ (j : Nat) t v, Try.f4.params[j]? = some t → args[j]? = some v → Value.okWide Try.prog W .any base t v := hval0
  have hW' := hW
  obtain ⟨p, q, hA0, hV, rfl, hfz, hnd⟩ := hW
  have hA : DataW.TrodAll enc Try.prog W 0 (fun _ => true) true Try.f4.params.toList args.toList ds p := hA0
  rw [Try.params4] at hA hval
  obtain ⟨v0, vs0, d0, ds0, p0, q0, hargs, rfl, rfl, h0, r0⟩ := trodAll_cons hA
  obtain ⟨v1, vs1, d1, ds1, p1, q1, rfl, rfl, rfl, h1, r1⟩ := trodAll_cons r0
  obtain ⟨rfl, rfl, rfl⟩ := trodAll_nil r1
  obtain rfl : args = #[v0, v1] := by cases args; simp_all
  obtain ⟨rfl, rfl⟩ := trodVars_none hV
  have hb : Rows.uptoBulk d0 + Rows.uptoBulk d1 ≤ 1048576 := by
    have : Rows.uptoBulkAll ([d0, d1] ++ []) ≤ 1048576 := of_decide_eq_true hk
    simp only [List.append_nil, Rows.uptoBulkAll] at this
    omega
  obtain ⟨u0, rfl, _⟩ := okWide_struct Try.underlying26 (hval 0 26 v0 rfl rfl)
  have k0 := h0
  have lt0 : ∀ x ∈ p0, x.block < W.heap.size := by obtain ⟨m, hm⟩ := k0; exact DataW.trod_lt m _ _ _ hm
  obtain ⟨x0, e0, g0, b0⟩ : ∃ x : TN, RepL (frOf W) W (ND x) (Value.cells (.agg u0)).toList ∧ (True) ∧ wt x ≤ Rows.uptoBulk d0 := by
    obtain ⟨fuel, hf⟩ := h0
    exact (op_node enc _) W _ _ fuel _ _ (Nat.le_refl _) hf
  have n0 : wt x0 ≤ 1048576 := by omega
  obtain ⟨n1, rfl⟩ := okWide_int Try.underlying3 (hval 1 3 v1 rfl rfl)
  have k1 := h1
  have lt1 : ∀ x ∈ p1, x.block < W.heap.size := by obtain ⟨m, hm⟩ := k1; exact DataW.trod_lt m _ _ _ hm
  obtain ⟨x1, e1, g1⟩ : ∃ x : Int, RepL (frOf W) W ([.int .i64 x]) (Value.cells (.int .i64 n1)).toList ∧ (Lit.int .i64 x).wf = true := by
    obtain ⟨fuel, hf⟩ := h1
    obtain ⟨a, r1, r2, _⟩ := (op_int (enc := enc) (P := Try.prog) Try.underlying3) W _ _ fuel _ _ (Nat.le_refl _) hf
    exact ⟨a, r1, r2⟩
  have hr : RepCs (frOf W) W [V.agg ((ND x0).map .d), V.d (.int .i64 x1)] [.agg u0, .int .i64 n1] [] :=
    ⟨_, _, [], [], rfl, rfl, rep_agg e0, _, _, [], [], rfl, rfl, rep_data e1 (by intro cs h; cases h), rfl, rfl⟩
  refine (law_of_TC (tc10Truncation x0 x1 (by omega)) hr).mono fun e W' ⟨he, bel⟩ => ?_
  subst he
  exact ⟨_, rfl, _, _, _, [], _, [], hW', trodAll_mk1 (shut_bool Try.underlying4 _), (trodAll_cons_mk (Below.trod laidOut (by kernel_rfl) (of_decide_eq_true (by kernel_rfl)) k0 bel lt0) (trodAll_cons_mk (Below.trod laidOut (by kernel_rfl) (of_decide_eq_true (by kernel_rfl)) k1 bel lt1) trodAll_mk0)), rfl, bel.frame _, fun h => by cases h⟩
theorem over : Rows.tlvTruncationUptoRow.holds Try.pinned (Rows.OpenSpec.upto Rows.tlvTruncationSpec) :=
  OpenClaim.holds_of_cond 4 Try.f4 rfl rfl rfl rfl rfl rfl rfl ⟨rfl, rfl, rfl, rfl, rfl⟩ rfl rfl rfl rfl rfl (by kernel_rfl) Try.func4 (by kernel_rfl)
    (of_decide_eq_true (by kernel_rfl)) (by unfold Func.isWrapper; first | (rw [if_pos (by decide +kernel)]; kernel_rfl) | (rw [if_neg (by decide +kernel)]; exact ⟨rfl, rfl⟩))
    (fun os started H enc _ F => lifted os started H enc F)
theorem proved : Rows.TlvTruncationUptoSaid := over
#print axioms proved
end Go.Proofs.Ytbdohnigbnhjnaa.tlvTruncation
namespace Go.Proofs.Ytbdohnigbnhjnaa
/-- The row, under a short name, for the claim. -/
theorem tlvTruncation_holds : Rows.TlvTruncationUptoSaid := tlvTruncation.proved
end Go.Proofs.Ytbdohnigbnhjnaa
