/- Contracts of functions: subscribers. -/
import Derived.Test.YtokbcminleemaaaTpG
import Derived.Test.YtokbcminleemaaaVcSub
set_option linter.unusedSimpArgs false
set_option linter.unusedVariables false
set_option linter.unusedSectionVars false
namespace Go.Proofs.Ytokbcminleemaaa.Vc
open Go Go.Vk Go.Tv Go.Proofs
set_option maxRecDepth 100000
set_option maxHeartbeats 4000000
attribute [local go_sem ↓] W_skip W_reg W_draw W_seq W_cond W_block W_exit W_label W_goto W_ret Kseq_norm Kseq_ret Kseq_ex Kseq_go Kseq_pan Kblk_norm Kblk_ret Kblk_self Kblk_ne Kblk_go Kblk_pan Kloop_ret Kloop_ex Kloop_go Kloop_pan KseqS_norm KseqS_ret KseqS_ex KseqS_pan Kend_norm Kend_ret Kend_ex KscS_norm KscS_ret KscS_ex KscS_go Wr_nil Wr_g Wg_11 Wg_00 Wg_10 Wg_01 Wg_skip Wr_call Wr_callv Wr_inv Winv_if Winv2_some Wr_panic Wr_isnil Wr_op Ev_some Wcv_fn Wd_callv Wd_inv Wdcv_fn Wdinv_if Wdinv2_some ifV_agg ifV_int Wnil_some Wpan_if Wcond_t Wcond_f Wd_nil Wd_g Wd_call Wd_op Wdg_11 Wdg_00 Wdg_10 Wdg_01 Wdg_skip Evd_some step_some step_none val_t val_c get_mk obf_mk rdl_nil rdl_cons aget_cons aget_nil
attribute [local go_sem] pl_mv pl_pick pl_box pl_build pl_bsl pl_ld pl_st pl_nilc pl_bin pl_eqb pl_eq pl_eqn pl_un pl_cvi pl_cvs pl_s2b pl_b2s pl_mki pl_mkf pl_mks pl_sl pl_sls pl_fa pl_fld pl_ia pl_iaA pl_ix pl_ixs pl_ta pl_ex pl_len pl_lens pl_mn pl_mx pl_app pl_apps ev aset adel upd Option.getD_some passAll passV List.append_nil reduceIte Nat.reduceEqDiff decide_eq_true_eq Bool.false_eq_true Bool.true_eq_false reduceCtorEq Nat.reduceAdd updf V.sliceOf placeD placeV V.toDs V.toD1 V.cells List.map_cons List.map_nil Nat.mul_one Nat.zero_mul List.length_nil List.length_cons Nat.zero_add List.nil_append true_and and_true and_self Nat.zero_lt_one if_true if_false Nat.reduceLT Nat.reduceLeDiff Nat.reduceMul splice List.take_zero List.drop_zero List.drop_nil Bool.not_true Bool.not_false bne_self_eq_false Bool.bne_true Bool.bne_false Bool.false_bne Bool.true_bne List.cons_append eq_self Option.map_some Option.map_none boundO bound b_and b_or b_add b_sub b_mul b_rem b_eql b_neq b_lss b_leq b_gtr b_geq b_seql b_sneq b_shr8 b_shl8 decide_true decide_false IOp.xs List.flatMap_cons List.flatMap_nil V.ids V.ids1 V.ids0
attribute [local go_sem] Vk.RetB resVs resV outOf Vk.init recvs recvV recv enumFrom
attribute [local go_sem] bs_length NDs_length VLDs_length bs_nil bs_cons bytesOf_bs
attribute [local go_sem] le_1 le_2 le_3 le_4 le_5 le_6 le_7 le_8 le_9 le_10 le_11 le_12 le_o0 ck_bool ck_int ck_str ck_slice ck_ni ck_if ck_nils ck_own nat_nn Int.cast_ofNat_Int datas V.data? eqCells eqD Bool.true_and Bool.false_and List.all_cons List.all_nil Bool.and_true Bool.and_self List.take_succ_cons List.drop_succ_cons List.getElem?_cons_zero List.getElem?_cons_succ Int.toNat_natCast Nat.add_zero Nat.sub_zero
attribute [local go_sem] Int.reduceBEq Int.reduceBNe Int.reduceLT Int.reduceLE Int.reduceGT Int.reduceGE Int.reduceEq Int.reduceNe Int.reduceAdd Int.reduceSub Int.reduceMul Int.reduceToNat beq_self_eq_true bne_self_eq_false Nat.reduceBEq Nat.reduceSub ge_iff_le gt_iff_lt
def mD (m : MS) : List D := [.int .i64 m.pub, .int .i64 m.ttl, .int .i64 m.ta, .int .i64 m.tb, .int .i64 m.tc, .int .i64 m.st, .int .i64 m.sq, .bool m.te, .int .i64 m.rev, .slice m.vs.length (VLDs m.vs)]
def sD (s : SS) : List D := [.int .i64 s.pub, .int .i64 s.rev, .bool s.kn, .int .i64 s.st, .int .i64 s.sq, .int .i64 s.left, .int .i64 s.lost, .bool s.te, .slice s.vs.length (VLDs s.vs)]
theorem mn_rule (k k' : IntKind) (a b : Int) : minInts [.d (.int k a), .d (.int k' b)] = some (.d (.int k (min a b))) := by
  simp only [minInts]
  congr 3
  split <;> omega
theorem mx_rule (k k' : IntKind) (a b : Int) : maxInts [.d (.int k a), .d (.int k' b)] = some (.d (.int k (max a b))) := by
  simp only [maxInts]
  congr 3
  split <;> omega
theorem tcModulo (n : Int) : TC Try.prog 64 [iv n, iv 4294967295] (iv (n % 4294967295)) := by
  refine tcW Try.func64 k64 h64 (by simp [c64]) (by simp) [] ?_
  obtain ⟨h1, h2⟩ := tmod_adj n 4294967295 (by omega)
  have h3 := Int.tmod_lt_of_pos n (show (0 : Int) < 4294967295 by omega)
  have h4 := Int.lt_tmod_of_pos n (show (0 : Int) < 4294967295 by omega)
  have w1 : w64 (n.tmod 4294967295 + 4294967295) = n.tmod 4294967295 + 4294967295 := w64_of (by omega)
  have e : (n.tmod 4294967295 + 4294967295).tmod 4294967295 = n % 4294967295 := by
    rw [Int.tmod_eq_emod_of_nonneg (by omega)]
    by_cases h : n.tmod 4294967295 < 0
    · rw [h1 h, Int.emod_emod_of_dvd _ (Int.dvd_refl _)]
    · rw [h2 h, Int.add_emod_right, Int.emod_emod_of_dvd _ (Int.dvd_refl _)]
  simp only [go_sem, c64, w1, e]
theorem tcDistance (a b : Int) : TC Try.prog 47 [iv a, iv b] (iv (distF a b)) := by
  refine tcW Try.func47 k47 h47 (by simp [c47]) (by simp) [] ?_
  have h1 := Int.emod_nonneg a (show (4294967295 : Int) ≠ 0 by omega)
  have h2 := Int.emod_lt_of_pos a (show (0 : Int) < 4294967295 by omega)
  have h3 := Int.emod_nonneg b (show (4294967295 : Int) ≠ 0 by omega)
  have h4 := Int.emod_lt_of_pos b (show (0 : Int) < 4294967295 by omega)
  have w1 : w64 (b % 4294967295 - a % 4294967295) = b % 4294967295 - a % 4294967295 := w64_of (by omega)
  simp only [go_sem, c47]
  refine Wcall_some (tcModulo b) ?_
  simp only [go_sem]
  refine Wcall_some (tcModulo a) ?_
  simp only [go_sem, w1]
  refine Wcall_some (tcModulo _) ?_
  simp only [go_sem]
  unfold distF mostN
  rw [Int.sub_emod b a]
theorem tcNewer (d : Int) : TC Try.prog 48 [iv d] (tv (newerF d)) := by
  refine tcW Try.func48 k48 h48 (by simp [c48]) (by simp) [] ?_
  simp only [go_sem, c48]
  by_cases h : 1 ≤ d <;> simp only [go_sem, h, newerF, decide_true, decide_false, Bool.true_and, Bool.false_and]
theorem tcCopied (s : SS) (hl : s.vs.length ≤ 1099511627776) : TC Try.prog 44 [sa s] (sa s) := by
  refine tcW Try.func44 k44 h44 (by simp [c44]) (by simp) [] ?_
  simp only [go_sem, c44, sa, scells, vls]
  refine Wcall_at (tcClone s.vs hl) (by rfl) ?_
  simp only [go_sem, vls]
theorem tcNewS (p r : Int) : TC Try.prog 15 [iv p, iv r] (sa (newS p r)) := by
  refine tcW Try.func15 k15 h15 (by simp [c15]) (by simp) [] ?_
  simp only [go_sem, c15]
  rfl
theorem tcTick (s : SS) (hl : s.vs.length ≤ 1099511627776) (hr : s.left < 9223372036854775808) : TC Try.prog 17 [sa s] (sa (tickF s)) := by
  refine tcW Try.func17 k17 h17 (by simp [c17]) (by simp) [] ?_
  simp only [go_sem, c17, sa, scells, vls]
  by_cases h : 0 < s.left
  · have w1 : w64 (s.left - 1) = s.left - 1 := w64_of (by omega)
    simp only [go_sem, h, w1]
    refine Wcall_at (tcCopied (tickF s) (by simp only [tickF]; split <;> exact hl)) (by simp only [tickF, if_pos h]; rfl) ?_
    simp only [go_sem, sa, scells, vls]
  · simp only [go_sem, h]
    refine Wcall_at (tcCopied (tickF s) (by simp only [tickF]; split <;> exact hl)) (by simp only [tickF, if_neg h]; rfl) ?_
    simp only [go_sem, sa, scells, vls]
theorem tcValid (s : SS) : TC Try.prog 42 [sa s] (tv (validF s)) := by
  refine tcW Try.func42 k42 h42 (by simp [c42]) (by simp) [] ?_
  simp only [go_sem, c42, sa, scells, vls, validF]
  cases h1 : s.kn
  · simp only [go_sem]
  by_cases h2 : 0 < s.left <;> simp only [go_sem, h2]
theorem tcAccept (what lost : Int) (s : SS) (m : MS) (hl : m.vs.length ≤ 1099511627776) (h0 : 0 ≤ lost) (h1 : lost ≤ 1099511627776) (h2 : -9223372036854775808 ≤ s.lost) :
    TC Try.prog 45 [iv what, iv lost, .dptr (mD m), .fbox (sD s)] (.tup [sa (accF s m lost), iv what]) := by
  refine tcW Try.func45 k45 h45 (by simp [c45]) (by simp) [] ?_
  have w1 : w64 (min s.lost 1000000 + lost) = min s.lost 1000000 + lost := w64_of (by omega)
  simp only [go_sem, c45, mD, sD, mn_rule, w1]
  refine ⟨by decide, ?_⟩
  refine Wcall_at (tcClone m.vs hl) (by rfl) ?_
  simp only [go_sem, vls]
  rfl
end Go.Proofs.Ytokbcminleemaaa.Vc
