/- Contracts of functions. -/
import Derived.Test.YtbdohnigbnhjnaaTvB
set_option linter.unusedSimpArgs false
set_option linter.unusedVariables false
set_option linter.unusedSectionVars false
namespace Go.Proofs.Ytbdohnigbnhjnaa.Vc
open Go Go.Vk Go.Tv Go.Proofs
set_option maxRecDepth 100000
set_option maxHeartbeats 4000000
attribute [local go_sem ↓] W_skip W_reg W_draw W_seq W_cond W_block W_exit W_label W_goto W_ret Kseq_norm Kseq_ret Kseq_ex Kseq_go Kseq_pan Kblk_norm Kblk_ret Kblk_self Kblk_ne Kblk_go Kblk_pan Kloop_ret Kloop_ex Kloop_go Kloop_pan KseqS_norm KseqS_ret KseqS_ex KseqS_pan Kend_norm Kend_ret Kend_ex KscS_norm KscS_ret KscS_ex KscS_go KscB_norm KscB_ret KscB_ex KscB_pan Wr_nil Wr_g Wg_11 Wg_00 Wg_10 Wg_01 Wg_skip Wr_call Wr_callv Wr_inv Winv_if Winv2_some Wr_panic Wr_isnil Wr_op Ev_some Wcv_fn Wd_callv Wd_inv Wdcv_fn Wdinv_if Wdinv2_some ifV_agg ifV_int Wnil_some Wpan_if Wcond_t Wcond_f Wd_nil Wd_g Wd_call Wd_op Wdg_11 Wdg_00 Wdg_10 Wdg_01 Wdg_skip Evd_some step_some step_none val_t val_c get_mk obf_mk rdl_nil rdl_cons aget_cons aget_nil
attribute [local go_sem] pl_mv pl_pick pl_box pl_build pl_bsl pl_ld pl_st pl_nilc pl_bin pl_eqb pl_eq pl_eqn pl_un pl_cvi pl_cvs pl_s2b pl_b2s pl_mki pl_mkf pl_mks pl_sl pl_sls pl_fa pl_fld pl_ia pl_iaA pl_ix pl_ixs pl_ta pl_ex pl_len pl_lens pl_mn pl_mx pl_app pl_apps ev aset adel upd Option.getD_some passAll passV List.append_nil reduceIte Nat.reduceEqDiff decide_eq_true_eq Bool.false_eq_true Bool.true_eq_false reduceCtorEq Nat.reduceAdd updf V.sliceOf placeD placeV V.toDs V.toD1 V.cells List.map_cons List.map_nil Nat.mul_one Nat.zero_mul List.length_nil List.length_cons Nat.zero_add List.nil_append true_and and_true and_self Nat.zero_lt_one if_true if_false Nat.reduceLT Nat.reduceLeDiff Nat.reduceMul splice List.take_zero List.drop_zero List.drop_nil Bool.not_true Bool.not_false bne_self_eq_false Bool.bne_true Bool.bne_false Bool.false_bne Bool.true_bne List.cons_append eq_self Option.map_some Option.map_none boundO bound b_and b_or b_add b_sub b_mul b_rem b_eql b_neq b_lss b_leq b_gtr b_geq b_seql b_sneq b_shr8 b_shl8 decide_true decide_false IOp.xs List.flatMap_cons List.flatMap_nil V.ids V.ids1 V.ids0
attribute [local go_sem] Vk.RetB resVs resV outOf Vk.init recvs recvV recv enumFrom
attribute [local go_sem] bs_length NDs_length VLDs_length bs_nil bs_cons bytesOf_bs
attribute [local go_sem] le_1 le_2 le_3 le_4 le_5 le_6 le_7 le_8 le_9 le_10 le_11 le_12 le_o0 ck_bool ck_int ck_str ck_slice ck_ni ck_if ck_nils ck_own nat_nn Int.cast_ofNat_Int datas V.data? eqCells eqD Bool.true_and Bool.false_and List.all_cons List.all_nil Bool.and_true Bool.and_self List.take_succ_cons List.drop_succ_cons List.getElem?_cons_zero List.getElem?_cons_succ Int.toNat_natCast Nat.add_zero Nat.sub_zero
attribute [local go_sem] Int.reduceBEq Int.reduceBNe Int.reduceLT Int.reduceLE Int.reduceGT Int.reduceGE Int.reduceEq Int.reduceNe Int.reduceAdd Int.reduceSub Int.reduceMul Int.reduceToNat beq_self_eq_true bne_self_eq_false Nat.reduceBEq Nat.reduceSub ge_iff_le gt_iff_lt
theorem tc63 (n : Int) : TC Try.prog 63 [iv n] (iv (headF n)) := by
  refine tcW Try.func63 k63 h63 (by simp [c63]) (by simp) [] ?_
  by_cases h1 : n < 128
  · simp only [go_sem, c63, headF, h1]
  by_cases h2 : n < 256 <;> simp only [go_sem, c63, headF, h1, h2]
theorem tc45 : ∀ (N : Nat) (L : List TN), wts L < N → N ≤ 1099511627776 → TC Try.prog 45 [ns L] (iv (szs L)) := by
  intro N
  induction N with
  | zero => intro L h; omega
  | succ N ih =>
  intro L hN hM
  refine tcW Try.func45 k45 h45 (by simp [c45]) (by simp) [] ?_
  simp only [go_sem, c45, ns]
  refine W_loop 104 [.keep 3, .keep 7, .keep 8, .keep 9] (fun m st => ∃ pre rest, L = pre ++ rest ∧ m = rest.length ∧ st = ⟨[(3, iv (szs pre)), (7, ns L), (8, iv L.length), (9, iv pre.length)], [], 2152⟩) (by omega) L.length _ rfl ⟨[], L, rfl, rfl, rfl⟩ ?_
  rintro m st ⟨pre, rest, hL, rfl, rfl⟩
  cases rest with
  | nil =>
    have : ¬ ((pre.length : Int) < (L.length : Int)) := by subst hL; simp
    have hL' : szs L = szs pre := by subst hL; simp
    simp only [go_sem, this, hL']
  | cons x rest =>
    obtain ⟨t, v, p⟩ := x
    obtain ⟨c2, c3, hdrop, hwt, hwl, hpl⟩ := at_node hL
    have hs : wts p < N := by omega
    have b1 := szs_le p
    have b2 := szs_le pre
    have b3 := headF_le (v.length + szs p)
    have w1 : w64 (v.length + szs p) = v.length + szs p := w64_of (by omega)
    have w2 : w64 (1 + headF (v.length + szs p)) = 1 + headF (v.length + szs p) := w64_of (by omega)
    have w3 : w64 (1 + headF (v.length + szs p) + (v.length + szs p)) = 1 + headF (v.length + szs p) + (v.length + szs p) := w64_of (by omega)
    have w4 : w64 (szs pre + (1 + headF (v.length + szs p) + (v.length + szs p))) = szs (pre ++ [.mk t v p]) := by
      rw [w64_of (by omega), szs_append]; simp only [szs, bod]; omega
    have w5 : w64 ((pre.length : Int) + 1) = pre.length + 1 := w64_of (by omega)
    simp only [go_sem, c2, c3, hdrop, ns]
    refine Wdcall_some (ih p hs (by omega)) ?_
    simp only [go_sem, w1]
    refine ⟨by decide, Wcall_some (tc63 _) ?_⟩
    simp only [go_sem, w2, w3, w4, w5, Kloop_norm]
    exact ⟨rest.length, _, by omega, rfl, pre ++ [.mk t v p], rest, by simp [hL], rfl, by simp [ns, St.get, aget]⟩
theorem tc23 (L : List TN) (h : wts L < 1099511627776) : TC Try.prog 23 [ns L] (iv (if chk L 0 = 0 then szs L else 0)) := by
  refine tcW Try.func23 k23 h23 (by simp [c23]) (by simp) [] ?_
  simp only [go_sem, c23, ns]
  refine Wcall_some (tc44 1099511627776 L 0 h (by omega) (by omega) (by omega)) ?_
  by_cases hz : chk L 0 = 0
  · simp only [go_sem, hz]
    refine Wcall_some (tc45 1099511627776 L h (by omega)) ?_
    simp only [go_sem]
  · have hz' : (chk L 0 != 0) = true := by simp [hz]
    simp only [go_sem, hz', if_neg hz]
end Go.Proofs.Ytbdohnigbnhjnaa.Vc
