/- Arguments that are read: values, messages, subscribers, events. -/
import Derived.Test.YtokbcminleemaaaTsD
import Derived.Test.YtokbcminleemaaaVkOpen
set_option linter.unusedSimpArgs false
set_option linter.unusedVariables false
set_option linter.unusedSectionVars false
namespace Go.Proofs.Ytokbcminleemaaa.Vc
open Go Go.Vk Go.Tv Go.Proofs
set_option maxRecDepth 100000
set_option maxHeartbeats 4000000
attribute [local go_sem ↓] W_skip W_reg W_draw W_seq W_cond W_block W_exit W_label W_goto W_ret Kseq_norm Kseq_ret Kseq_ex Kseq_go Kseq_pan Kblk_norm Kblk_ret Kblk_self Kblk_ne Kblk_go Kblk_pan Kloop_ret Kloop_ex Kloop_go Kloop_pan KseqS_norm KseqS_ret KseqS_ex KseqS_pan Kend_norm Kend_ret Kend_ex KscS_norm KscS_ret KscS_ex KscS_go Wr_nil Wr_g Wg_11 Wg_00 Wg_10 Wg_01 Wg_skip Wr_call Wr_callv Wr_inv Winv_if Winv2_some Wr_panic Wr_isnil Wr_op Ev_some Wcv_fn Wd_callv Wd_inv Wdcv_fn Wdinv_if Wdinv2_some ifV_agg ifV_int Wnil_some Wpan_if Wcond_t Wcond_f Wd_nil Wd_g Wd_call Wd_op Wdg_11 Wdg_00 Wdg_10 Wdg_01 Wdg_skip Evd_some step_some step_none val_t val_c get_mk obf_mk rdl_nil rdl_cons aget_cons aget_nil
attribute [local go_sem] pl_mv pl_pick pl_box pl_build pl_bsl pl_ld pl_st pl_nilc pl_bin pl_eqb pl_eq pl_eqn pl_un pl_cvi pl_cvs pl_s2b pl_b2s pl_mki pl_mkf pl_mks pl_sl pl_sls pl_fa pl_fld pl_ia pl_iaA pl_ix pl_ixs pl_ta pl_ex pl_len pl_lens pl_mn pl_mx pl_app pl_apps ev aset adel upd Option.getD_some passAll passV List.append_nil reduceIte Nat.reduceEqDiff decide_eq_true_eq Bool.false_eq_true Bool.true_eq_false reduceCtorEq Nat.reduceAdd updf V.sliceOf placeD placeV V.toDs V.toD1 V.cells List.map_cons List.map_nil Nat.mul_one Nat.zero_mul List.length_nil List.length_cons Nat.zero_add List.nil_append true_and and_true and_self Nat.zero_lt_one if_true if_false Nat.reduceLT Nat.reduceLeDiff Nat.reduceMul splice List.take_zero List.drop_zero List.drop_nil Bool.not_true Bool.not_false bne_self_eq_false Bool.bne_true Bool.bne_false Bool.false_bne Bool.true_bne List.cons_append eq_self Option.map_some Option.map_none boundO bound b_and b_or b_add b_sub b_mul b_rem b_eql b_neq b_lss b_leq b_gtr b_geq b_seql b_sneq b_shr8 b_shl8 decide_true decide_false IOp.xs List.flatMap_cons List.flatMap_nil V.ids V.ids1 V.ids0
attribute [local go_sem] Vk.RetB resVs resV outOf Vk.init recvs recvV recv enumFrom
attribute [local go_sem] bs_length NDs_length VLDs_length bs_nil bs_cons bytesOf_bs
attribute [local go_sem] le_1 le_2 le_3 le_4 le_5 le_6 le_7 le_8 le_9 le_10 le_11 le_12 le_o0 ck_bool ck_int ck_str ck_slice ck_ni ck_if ck_nils ck_own nat_nn Int.cast_ofNat_Int datas V.data? eqCells eqD Bool.true_and Bool.false_and List.all_cons List.all_nil Bool.and_true Bool.and_self List.take_succ_cons List.drop_succ_cons List.getElem?_cons_zero List.getElem?_cons_succ Int.toNat_natCast Nat.add_zero Nat.sub_zero
attribute [local go_sem] Int.reduceBEq Int.reduceBNe Int.reduceLT Int.reduceLE Int.reduceGT Int.reduceGE Int.reduceEq Int.reduceNe Int.reduceAdd Int.reduceSub Int.reduceMul Int.reduceToNat beq_self_eq_true bne_self_eq_false Nat.reduceBEq Nat.reduceSub ge_iff_le gt_iff_lt
theorem VLDs_flat (l : List VL) : VLDs l = l.flatMap VLD := by
  induction l with
  | nil => rfl
  | cons x r ih => simp [VLDs, ih]
theorem EVDs_flat (l : List EV) : EVDs l = l.flatMap EVD := by
  induction l with
  | nil => rfl
  | cons x r ih => simp [EVDs, ih]
theorem VLD_ck (v : VL) : ∀ x ∈ VLD v, V.cellOk (.d x) = true := by
  intro x hx
  simp only [VLD, List.mem_cons, List.not_mem_nil, or_false] at hx
  rcases hx with rfl | rfl | rfl | rfl | rfl | rfl <;> rfl
theorem EVD_ck (v : EV) : ∀ x ∈ EVD v, V.cellOk (.d x) = true := by
  intro x hx
  simp only [EVD, List.mem_cons, List.not_mem_nil, or_false] at hx
  rcases hx with rfl | rfl | rfl | rfl | rfl | rfl <;> rfl
/-- A number that an int holds. -/
def okI (n : Int) : Prop := -9223372036854775808 ≤ n ∧ n < 9223372036854775808
theorem okI_of {n : Int} (h : (Lit.int .i64 n).wf = true) : okI n := by
  simp [Lit.wf, IntKind.min, IntKind.max, IntKind.signed, IntKind.bits] at h
  exact ⟨by omega, by omega⟩
def okV (v : VL) : Prop := okI v.k ∧ okI v.n ∧ v.s.length ≤ maxLen ∧ okI v.a ∧ okI v.b ∧ okI v.c
section
variable {H : Type} (enc : TypeId × Value → H)
theorem op_val (N : Nat) : Opn enc Try.prog N 78 VLD okV (fun _ => 0) := by
  refine Opn.map (op_struct Try.underlying78 (sz := 1 + (1 + (1 + (3 + 0)))) (by kernel_rfl) (fun M hM => op_more rfl (op_int Try.underlying3) (by kernel_rfl) (op_more rfl (op_int Try.underlying3) (by kernel_rfl)
    (op_more rfl (op_str Try.underlying9) (by kernel_rfl) (op_more rfl (op_struct Try.underlying39 (sz := 1 + (1 + (1 + 0))) (by kernel_rfl) (fun M hM => op_more rfl (op_int Try.underlying3) (by kernel_rfl) (op_more rfl (op_int Try.underlying3) (by kernel_rfl) (op_more rfl (op_int Try.underlying3) (by kernel_rfl) (op_none _))))) (by kernel_rfl) (op_none _))))))
    (fun x : Int × Int × List UInt8 × (Int × Int × Int × Unit) × Unit => VL.mk x.1 x.2.1 x.2.2.1 x.2.2.2.1.1 x.2.2.2.1.2.1 x.2.2.2.1.2.2.1) ?_ ?_ ?_
  · intro a _; rfl
  · rintro ⟨a, b, c, ⟨d, e, f, _⟩, _⟩ ⟨h1, h2, h3, ⟨h4, h5, h6, _⟩, _⟩
    exact ⟨okI_of h1, okI_of h2, h3, okI_of h4, okI_of h5, okI_of h6⟩
  · intro a _; exact Nat.zero_le _
theorem op_vals (N : Nat) : Opn enc Try.prog N 24 (fun l : List VL => [.slice l.length (VLDs l)]) (fun l => l.length ≤ maxLen ∧ ∀ v ∈ l, okV v) (fun _ => 0) := by
  refine Opn.map (op_slice (sz := 6) Try.underlying24 (fun K _ => op_val enc K) (by kernel_rfl) (by omega) (fun _ => rfl) VLD_ck) (fun l : List VL => l) ?_ ?_ ?_
  · intro a _; rw [VLDs_flat]
  · intro a h; exact h
  · intro a _; exact Nat.zero_le _
theorem op_ev (N : Nat) : Opn enc Try.prog N 33 EVD (fun _ => True) (fun _ => 0) := by
  refine Opn.map (op_struct Try.underlying33 (sz := 1 + (1 + (1 + (1 + (1 + (1 + 0)))))) (by kernel_rfl) (fun M hM => op_more rfl (op_int Try.underlying3) (by kernel_rfl) (op_more rfl (op_int Try.underlying3) (by kernel_rfl) (op_more rfl (op_int Try.underlying3) (by kernel_rfl)
    (op_more rfl (op_bool Try.underlying4) (by kernel_rfl) (op_more rfl (op_bool Try.underlying4) (by kernel_rfl) (op_more rfl (op_bool Try.underlying4) (by kernel_rfl) (op_none _))))))))
    (fun x : Int × Int × Int × Bool × Bool × Bool × Unit => EV.mk x.1 x.2.1 x.2.2.1 x.2.2.2.1 x.2.2.2.2.1 x.2.2.2.2.2.1) ?_ ?_ ?_
  · intro a _; rfl
  · intro a _; trivial
  · intro a _; exact Nat.zero_le _
theorem op_evs (N : Nat) : Opn enc Try.prog N 22 (fun l : List EV => [.slice l.length (EVDs l)]) (fun l => l.length ≤ maxLen) (fun _ => 0) := by
  refine Opn.map (op_slice (sz := 6) Try.underlying22 (fun K _ => op_ev enc K) (by kernel_rfl) (by omega) (fun _ => rfl) EVD_ck) (fun l : List EV => l) ?_ ?_ ?_
  · intro a _; rw [EVDs_flat]
  · intro a h; exact h.1
  · intro a _; exact Nat.zero_le _
def okM (m : MS) : Prop := okI m.pub ∧ okI m.ttl ∧ okI m.ta ∧ okI m.tb ∧ okI m.tc ∧ okI m.st ∧ okI m.sq ∧ okI m.rev ∧ m.vs.length ≤ maxLen ∧ ∀ v ∈ m.vs, okV v
theorem op_msg (N : Nat) : Opn enc Try.prog N 41 mD okM (fun _ => 0) := by
  refine Opn.map (op_struct Try.underlying41 (sz := 1 + (1 + (3 + (1 + (1 + (1 + (1 + (1 + 0)))))))) (by kernel_rfl) (fun M hM => op_more rfl (op_int Try.underlying3) (by kernel_rfl) (op_more rfl (op_int Try.underlying3) (by kernel_rfl)
    (op_more rfl (op_struct Try.underlying39 (sz := 1 + (1 + (1 + 0))) (by kernel_rfl) (fun M hM => op_more rfl (op_int Try.underlying3) (by kernel_rfl) (op_more rfl (op_int Try.underlying3) (by kernel_rfl) (op_more rfl (op_int Try.underlying3) (by kernel_rfl) (op_none _))))) (by kernel_rfl)
    (op_more rfl (op_int Try.underlying3) (by kernel_rfl) (op_more rfl (op_int Try.underlying3) (by kernel_rfl) (op_more rfl (op_bool Try.underlying4) (by kernel_rfl) (op_more rfl (op_int Try.underlying3) (by kernel_rfl) (op_more rfl (op_vals enc _) (by kernel_rfl) (op_none _))))))))))
    (fun x : Int × Int × (Int × Int × Int × Unit) × Int × Int × Bool × Int × List VL × Unit => MS.mk x.1 x.2.1 x.2.2.1.1 x.2.2.1.2.1 x.2.2.1.2.2.1 x.2.2.2.1 x.2.2.2.2.1 x.2.2.2.2.2.1 x.2.2.2.2.2.2.1 x.2.2.2.2.2.2.2.1) ?_ ?_ ?_
  · intro a _; rfl
  · rintro ⟨a, b, ⟨d, e, f, _⟩, g, h, i, j, k, _⟩ ⟨h1, h2, ⟨h4, h5, h6, _⟩, h7, h8, _, h9, h10, _⟩
    exact ⟨okI_of h1, okI_of h2, okI_of h4, okI_of h5, okI_of h6, okI_of h7, okI_of h8, okI_of h9, h10⟩
  · intro a _; exact Nat.zero_le _
def okSS (s : SS) : Prop := okI s.pub ∧ okI s.rev ∧ okI s.st ∧ okI s.sq ∧ okI s.left ∧ okI s.lost ∧ s.vs.length ≤ maxLen ∧ ∀ v ∈ s.vs, okV v
theorem op_sub (N : Nat) : Opn enc Try.prog N 26 sD okSS (fun _ => 0) := by
  refine Opn.map (op_struct Try.underlying26 (sz := 1 + (1 + (1 + (1 + (1 + (1 + (1 + (1 + (1 + 0))))))))) (by kernel_rfl) (fun M hM => op_more rfl (op_int Try.underlying3) (by kernel_rfl) (op_more rfl (op_int Try.underlying3) (by kernel_rfl) (op_more rfl (op_bool Try.underlying4) (by kernel_rfl)
    (op_more rfl (op_int Try.underlying3) (by kernel_rfl) (op_more rfl (op_int Try.underlying3) (by kernel_rfl) (op_more rfl (op_int Try.underlying3) (by kernel_rfl) (op_more rfl (op_int Try.underlying3) (by kernel_rfl) (op_more rfl (op_bool Try.underlying4) (by kernel_rfl) (op_more rfl (op_vals enc _) (by kernel_rfl) (op_none _)))))))))))
    (fun x : Int × Int × Bool × Int × Int × Int × Int × Bool × List VL × Unit => SS.mk x.1 x.2.1 x.2.2.1 x.2.2.2.1 x.2.2.2.2.1 x.2.2.2.2.2.1 x.2.2.2.2.2.2.1 x.2.2.2.2.2.2.2.1 x.2.2.2.2.2.2.2.2.1) ?_ ?_ ?_
  · intro a _; rfl
  · rintro ⟨a, b, c, d, e, f, g, h, i, _⟩ ⟨h1, h2, _, h4, h5, h6, h7, _, h8, _⟩
    exact ⟨okI_of h1, okI_of h2, okI_of h4, okI_of h5, okI_of h6, okI_of h7, h8⟩
  · intro a _; exact Nat.zero_le _
end
end Go.Proofs.Ytokbcminleemaaa.Vc
