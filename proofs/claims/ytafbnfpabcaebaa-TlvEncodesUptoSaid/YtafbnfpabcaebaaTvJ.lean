import Derived.Test.YtafbnfpabcaebaaTvG
import Derived.Test.YtafbnfpabcaebaaTvI
set_option linter.unusedSimpArgs false
set_option linter.unusedVariables false
set_option linter.unusedSectionVars false
namespace Go.Proofs.Ytafbnfpabcaebaa.Vc
open Go Go.Vk Go.Tv Go.Proofs
set_option maxRecDepth 100000
set_option maxHeartbeats 2000000
attribute [local go_sem ↓] W_skip W_reg W_draw W_seq W_cond W_block W_exit W_label W_goto W_ret Kseq_norm Kseq_ret Kseq_ex Kseq_go Kseq_pan Kblk_norm Kblk_ret Kblk_self Kblk_ne Kblk_go Kblk_pan Kloop_ret Kloop_ex Kloop_go Kloop_pan Wr_nil Wr_g Wg_11 Wg_00 Wg_10 Wg_01 Wg_skip Wr_call Wr_callv Wr_panic Wr_isnil Wr_op Ev_some Wcv_fn Wnil_some Wpan_if Wcond_t Wcond_f Wd_nil Wd_g Wd_call Wd_op Wdg_11 Wdg_00 Wdg_10 Wdg_01 Wdg_skip Evd_some step_some step_none val_t val_c get_mk obf_mk rdl_nil rdl_cons aget_cons aget_nil
attribute [local go_sem] pl_mv pl_pick pl_box pl_build pl_bsl pl_ld pl_st pl_nilc pl_bin pl_eqb pl_eq pl_eqn pl_un pl_cvi pl_cvs pl_s2b pl_b2s pl_mki pl_mkf pl_mks pl_sl pl_sls pl_fa pl_fld pl_ia pl_iaA pl_ix pl_ixs pl_ta pl_ex pl_len pl_lens pl_mn pl_mx pl_app pl_apps pl_inv ev aset adel upd Option.getD_some passAll passV List.append_nil reduceIte Nat.reduceEqDiff decide_eq_true_eq Bool.false_eq_true Bool.true_eq_false reduceCtorEq Nat.reduceAdd updf V.sliceOf placeD V.toDs V.toD1 V.cells List.map_cons List.map_nil Nat.mul_one Nat.zero_mul List.length_nil List.length_cons Nat.zero_add List.nil_append true_and and_true and_self Nat.zero_lt_one if_true if_false Nat.reduceLT Nat.reduceLeDiff Nat.reduceMul splice List.take_zero List.drop_zero List.drop_nil Bool.not_true Bool.not_false bne_self_eq_false Bool.bne_true Bool.bne_false Bool.false_bne Bool.true_bne List.cons_append eq_self Option.map_some Option.map_none boundO bound b_and b_or b_add b_sub b_mul b_rem b_eql b_neq b_lss b_leq b_gtr b_geq b_seql b_sneq b_shr8 b_shl8 decide_true decide_false IOp.xs List.flatMap_cons List.flatMap_nil V.ids V.ids1 V.ids0
attribute [local go_sem] Vk.RetB resVs resV outOf Vk.init recvs recvV recv enumFrom
attribute [local go_sem] bs_length NDs_length bs_nil bs_cons bytesOf_bs
attribute [local go_sem] le_1 le_2 le_3 le_4 le_5 le_6 le_7 le_8 le_9 le_10 le_11 le_12 le_o0 ck_bool ck_int ck_str ck_slice ck_ni ck_if ck_nils ck_own nat_nn List.all_cons List.all_nil Bool.and_true Bool.and_self List.take_succ_cons List.drop_succ_cons List.getElem?_cons_zero List.getElem?_cons_succ Int.toNat_natCast Nat.add_zero Nat.sub_zero
attribute [local go_sem] Int.reduceBEq Int.reduceBNe Int.reduceLT Int.reduceLE Int.reduceGT Int.reduceGE Int.reduceEq Int.reduceNe Int.reduceAdd Int.reduceSub Int.reduceMul Int.reduceToNat beq_self_eq_true bne_self_eq_false Nat.reduceBEq Nat.reduceSub ge_iff_le gt_iff_lt
theorem tc4 (L M : List TN) (h : wts L < 1048577) (h2 : wts M < 1048577) : TC Try.prog 4 [ns L, ns M] (tv true) := by
  refine tcW Try.func4 k4 h4 (by simp [c4]) (by simp) [] ?_
  simp only [go_sem, c4, ns]
  refine Wcall_some tc10 ?_
  simp only [go_sem]
  refine Wcall_some (tc14 L (by omega)) ?_
  cases g1 : largeB L
  rotate_left
  · simp only [go_sem]
  simp only [go_sem]
  refine Wcall_some (tc14 M (by omega)) ?_
  cases g2 : largeB M
  rotate_left
  · simp only [go_sem]
  simp only [go_sem]
  refine Wcall_some (tc12 L (by omega)) ?_
  simp only [go_sem]
  refine Wcall_some (tc16 1048577 L h (by omega)) ?_
  simp only [go_sem, ns]
  refine Wcall_some (tc15 L (by omega)) ?_
  simp only [go_sem, bv]
  refine Wcall_some (tc17 L (by omega)) ?_
  simp only [go_sem]
  refine Wcall_some (tc16 1048577 L h (by omega)) ?_
  simp only [go_sem, ns]
  refine Wcall_some (tc18 L (by omega)) ?_
  simp only [go_sem]
  refine Wcall_some (tcSame 1048577 (by omega) L M h (by omega)) ?_
  simp only [go_sem]
  refine Wcall_some (tc16 1048577 L h (by omega)) ?_
  simp only [go_sem, ns]
  refine Wcall_some (tc16 1048577 M h2 (by omega)) ?_
  simp only [go_sem, ns]
  refine Wcall_some (tc20 1048577 (by omega) L M h (by omega)) ?_
  have e1 : ((sameL L M) == (sameL L M)) = true := by simp
  simp only [go_sem]
  refine Wcall_some (tcSame 1048577 (by omega) L L h (by omega)) ?_
  simp only [go_sem, sameL_refl]
end Go.Proofs.Ytafbnfpabcaebaa.Vc
