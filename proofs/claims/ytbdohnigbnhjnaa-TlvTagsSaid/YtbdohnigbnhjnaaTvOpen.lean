/- Contracts of functions. -/
import Derived.Test.YtbdohnigbnhjnaaTvA
import Derived.Test.YtbdohnigbnhjnaaVkOpen
set_option linter.unusedSimpArgs false
set_option linter.unusedVariables false
set_option linter.unusedSectionVars false
namespace Go.Proofs.Ytbdohnigbnhjnaa.Vc
open Go Go.Vk Go.Tv Go.Proofs
set_option maxRecDepth 100000
set_option maxHeartbeats 4000000
attribute [local go_sem ↓] W_skip W_reg W_draw W_seq W_cond W_block W_exit W_label W_goto W_ret Kseq_norm Kseq_ret Kseq_ex Kseq_go Kseq_pan Kblk_norm Kblk_ret Kblk_self Kblk_ne Kblk_go Kblk_pan Kloop_ret Kloop_ex Kloop_go Kloop_pan KseqS_norm KseqS_ret KseqS_ex KseqS_pan Kend_norm Kend_ret Kend_ex KscS_norm KscS_ret KscS_ex KscS_go KscB_norm KscB_ret KscB_ex KscB_pan Wr_nil Wr_g Wg_11 Wg_00 Wg_10 Wg_01 Wg_skip Wr_call Wr_callv Wr_inv Winv_if Winv2_some Wr_panic Wr_isnil Wr_op Ev_some Wcv_fn Wd_callv Wd_inv Wdcv_fn Wdinv_if Wdinv2_some ifV_agg ifV_int Wnil_some Wpan_if Wcond_t Wcond_f Wd_nil Wd_g Wd_call Wd_op Wdg_11 Wdg_00 Wdg_10 Wdg_01 Wdg_skip Evd_some step_some step_none val_t val_c get_mk obf_mk rdl_nil rdl_cons aget_cons aget_nil
attribute [local go_sem] pl_mv pl_pick pl_box pl_build pl_bsl pl_ld pl_st pl_nilc pl_bin pl_eqb pl_eq pl_eqn pl_un pl_cvi pl_cvs pl_s2b pl_b2s pl_mki pl_mkf pl_mks pl_sl pl_sls pl_fa pl_fld pl_ia pl_iaA pl_ix pl_ixs pl_ta pl_ex pl_len pl_lens pl_mn pl_mx pl_app pl_apps ev aset adel upd Option.getD_some passAll passV List.append_nil reduceIte Nat.reduceEqDiff decide_eq_true_eq Bool.false_eq_true Bool.true_eq_false reduceCtorEq Nat.reduceAdd updf V.sliceOf placeD placeV V.toDs V.toD1 V.cells List.map_cons List.map_nil Nat.mul_one Nat.zero_mul List.length_nil List.length_cons Nat.zero_add List.nil_append true_and and_true and_self Nat.zero_lt_one if_true if_false Nat.reduceLT Nat.reduceLeDiff Nat.reduceMul splice List.take_zero List.drop_zero List.drop_nil Bool.not_true Bool.not_false bne_self_eq_false Bool.bne_true Bool.bne_false Bool.false_bne Bool.true_bne List.cons_append eq_self Option.map_some Option.map_none boundO bound b_and b_or b_add b_sub b_mul b_rem b_eql b_neq b_lss b_leq b_gtr b_geq b_seql b_sneq b_sadd b_shr8 b_shl8 decide_true decide_false IOp.xs List.flatMap_cons List.flatMap_nil V.ids V.ids1 V.ids0
attribute [local go_sem] Vk.RetB resVs resV outOf Vk.init recvs recvV recv enumFrom
attribute [local go_sem] bs_length NDs_length VLDs_length bs_nil bs_cons bytesOf_bs
attribute [local go_sem] le_1 le_2 le_3 le_4 le_5 le_6 le_7 le_8 le_9 le_10 le_11 le_12 le_o0 ck_bool ck_int ck_str ck_slice ck_ni ck_if ck_nils ck_own nat_nn Int.cast_ofNat_Int datas V.data? eqCells eqD Bool.true_and Bool.false_and List.all_cons List.all_nil Bool.and_true Bool.and_self List.take_succ_cons List.drop_succ_cons List.getElem?_cons_zero List.getElem?_cons_succ Int.toNat_natCast Nat.add_zero Nat.sub_zero
attribute [local go_sem] Int.reduceBEq Int.reduceBNe Int.reduceLT Int.reduceLE Int.reduceGT Int.reduceGE Int.reduceEq Int.reduceNe Int.reduceAdd Int.reduceSub Int.reduceMul Int.reduceToNat beq_self_eq_true bne_self_eq_false Nat.reduceBEq Nat.reduceSub ge_iff_le gt_iff_lt
theorem ND_eq (n : TN) : ND n = match n with | .mk t v p => [.int .i64 t, .slice v.length (bs v), .slice p.length (NDs p)] := by cases n; rfl
theorem NDs_flat (l : List TN) : NDs l = l.flatMap ND := by
  induction l with
  | nil => rfl
  | cons x r ih => simp [NDs, ih]
theorem bs_flat (l : List UInt8) : l.flatMap (fun b => [byteD b]) = bs l := by
  induction l with
  | nil => rfl
  | cons x r ih => rw [List.flatMap_cons, ih]; rfl
theorem wts_sum (l : List TN) : wts l = (l.map wt).sum := by
  induction l with
  | nil => rfl
  | cons x r ih => simp [wts, ih]
theorem ND_ck (n : TN) : ∀ x ∈ ND n, V.cellOk (.d x) = true := by
  cases n
  intro x hx
  simp only [ND, List.mem_cons, List.not_mem_nil, or_false] at hx
  rcases hx with rfl | rfl | rfl <;> rfl
section
variable {H : Type} (enc : TypeId × Value → H)
theorem op_node (N : Nat) : Opn enc Try.prog N 26 ND (fun _ => True) wt := by
  induction N using Nat.strongRecOn with
  | _ N ih =>
  refine Opn.map (op_struct Try.underlying26 (sz := 1 + (1 + (1 + 0))) (by kernel_rfl) (fun M hM => op_more rfl (op_int Try.underlying3) (by kernel_rfl) (op_more rfl
    (op_slice (sz := 1) Try.underlying22 (fun K _ => op_byte Try.underlying5) (by kernel_rfl) (by omega) (fun _ => rfl) (by simp [byteD, V.cellOk])) (by kernel_rfl)
    (op_more rfl (op_slice (sz := 3) Try.underlying24 (fun K hK => ih K (by omega)) (by kernel_rfl) (by omega) ND_length ND_ck) (by kernel_rfl) (op_none _)))))
    (fun a : Int × List UInt8 × List TN × Unit => TN.mk a.1 a.2.1 a.2.2.1) ?_ ?_ ?_
  · intro a _
    simp only [ND, bs_flat, NDs_flat, List.append_nil, List.cons_append, List.nil_append]
  · intro a _; trivial
  · intro a _
    simp only [wt, wts_sum, List.map_const', List.sum_replicate_nat]
    omega
theorem op_nodes (N : Nat) : Opn enc Try.prog N 24 (fun l : List TN => [.slice l.length (NDs l)]) (fun _ => True) (fun l => wts l + 1) := by
  refine Opn.map (op_slice (sz := 3) Try.underlying24 (fun K _ => op_node enc K) (by kernel_rfl) (by omega) ND_length ND_ck) (fun l : List TN => l) ?_ ?_ ?_
  · intro a _; rw [NDs_flat]
  · intro a _; trivial
  · intro a _; rw [wts_sum]; omega
theorem op_bytes (N : Nat) : Opn enc Try.prog N 22 (fun l : List UInt8 => [.slice l.length (bs l)]) (fun l => l.length ≤ maxLen) (fun _ => 0) := by
  refine Opn.map (op_slice (sz := 1) Try.underlying22 (fun K _ => op_byte Try.underlying5) (by kernel_rfl) (by omega) (fun _ => rfl) (by simp [byteD, V.cellOk])) (fun l : List UInt8 => l) ?_ ?_ ?_
  · intro a _; rw [bs_flat]
  · intro a h; exact h.1
  · intro a _; exact Nat.zero_le _
end
end Go.Proofs.Ytbdohnigbnhjnaa.Vc
