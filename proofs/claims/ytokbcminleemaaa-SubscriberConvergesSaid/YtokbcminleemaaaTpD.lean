/- Contracts of functions: the check of a value. -/
import Derived.Test.YtokbcminleemaaaTpC
set_option linter.unusedSimpArgs false
set_option linter.unusedVariables false
set_option linter.unusedSectionVars false
namespace Go.Proofs.Ytokbcminleemaaa.Vc
open Go Go.Vk Go.Tv Go.Proofs
set_option maxRecDepth 100000
set_option maxHeartbeats 4000000
attribute [local go_sem ↓] W_skip W_reg W_draw W_seq W_cond W_block W_exit W_label W_goto W_ret Kseq_norm Kseq_ret Kseq_ex Kseq_go Kseq_pan Kblk_norm Kblk_ret Kblk_self Kblk_ne Kblk_go Kblk_pan Kloop_ret Kloop_ex Kloop_go Kloop_pan KseqS_norm KseqS_ret KseqS_ex KseqS_pan Kend_norm Kend_ret Kend_ex KscS_norm KscS_ret KscS_ex KscS_go Wr_nil Wr_g Wg_11 Wg_00 Wg_10 Wg_01 Wg_skip Wr_call Wr_callv Wr_inv Winv_if Winv2_some Wr_panic Wr_isnil Wr_op Ev_some Wcv_fn Wd_callv Wd_inv Wdcv_fn Wdinv_if Wdinv2_some ifV_agg ifV_int Wnil_some Wpan_if Wcond_t Wcond_f Wd_nil Wd_g Wd_call Wd_op Wdg_11 Wdg_00 Wdg_10 Wdg_01 Wdg_skip Evd_some step_some step_none val_t val_c get_mk obf_mk rdl_nil rdl_cons aget_cons aget_nil
attribute [local go_sem] pl_mv pl_pick pl_box pl_build pl_bsl pl_ld pl_st pl_nilc pl_bin pl_eqb pl_eq pl_eqn pl_un pl_cvi pl_cvs pl_s2b pl_b2s pl_mki pl_mkf pl_mks pl_sl pl_sls pl_fa pl_fld pl_ia pl_iaA pl_ix pl_ixs pl_ta pl_ex pl_len pl_lens pl_mn pl_mx pl_app pl_apps ev aset adel upd Option.getD_some passAll passV List.append_nil reduceIte Nat.reduceEqDiff decide_eq_true_eq Bool.false_eq_true Bool.true_eq_false reduceCtorEq Nat.reduceAdd updf V.sliceOf placeD placeV V.toDs V.toD1 V.cells List.map_cons List.map_nil Nat.mul_one Nat.zero_mul List.length_nil List.length_cons Nat.zero_add List.nil_append true_and and_true and_self Nat.zero_lt_one if_true if_false Nat.reduceLT Nat.reduceLeDiff Nat.reduceMul splice List.take_zero List.drop_zero List.drop_nil Bool.not_true Bool.not_false bne_self_eq_false Bool.bne_true Bool.bne_false Bool.false_bne Bool.true_bne List.cons_append eq_self Option.map_some Option.map_none boundO bound b_and b_or b_add b_sub b_mul b_rem b_eql b_neq b_lss b_leq b_gtr b_geq b_seql b_sneq b_shr8 b_shl8 decide_true decide_false IOp.xs List.flatMap_cons List.flatMap_nil V.ids V.ids1 V.ids0
attribute [local go_sem] Vk.RetB resVs resV outOf Vk.init recvs recvV recv enumFrom
attribute [local go_sem] bs_length NDs_length VLDs_length bs_nil bs_cons bytesOf_bs
attribute [local go_sem] le_1 le_2 le_3 le_4 le_5 le_6 le_7 le_8 le_9 le_10 le_11 le_12 le_o0 ck_bool ck_int ck_str ck_slice ck_ni ck_if ck_nils ck_own nat_nn Int.cast_ofNat_Int datas V.data? eqCells eqD Bool.true_and Bool.false_and List.all_cons List.all_nil Bool.and_true Bool.and_self List.take_succ_cons List.drop_succ_cons List.getElem?_cons_zero List.getElem?_cons_succ Int.toNat_natCast Nat.add_zero Nat.sub_zero
attribute [local go_sem] Int.reduceBEq Int.reduceBNe Int.reduceLT Int.reduceLE Int.reduceGT Int.reduceGE Int.reduceEq Int.reduceNe Int.reduceAdd Int.reduceSub Int.reduceMul Int.reduceToNat beq_self_eq_true bne_self_eq_false Nat.reduceBEq Nat.reduceSub ge_iff_le gt_iff_lt
theorem confl1 (v : VL) (h : v.k = 1) : (v.s == [] && (v.a == 0 && (v.b == 0 && v.c == 0))) = !confl v := by
  simp only [confl, h]
  by_cases h0 : v.n = 0 <;> by_cases h1 : v.s = [] <;> by_cases h2 : v.a = 0 <;> by_cases h3 : v.b = 0 <;> by_cases h4 : v.c = 0 <;> simp [h0, h1, h2, h3, h4]
theorem confl2 (v : VL) (h : v.k = 2) : (v.s == [] && (v.a == 0 && (v.b == 0 && v.c == 0))) = !confl v := by
  simp only [confl, h]
  by_cases h0 : v.n = 0 <;> by_cases h1 : v.s = [] <;> by_cases h2 : v.a = 0 <;> by_cases h3 : v.b = 0 <;> by_cases h4 : v.c = 0 <;> simp [h0, h1, h2, h3, h4]
theorem confl3 (v : VL) (h : v.k = 3) : (v.n == 0 && (v.a == 0 && (v.b == 0 && v.c == 0))) = !confl v := by
  simp only [confl, h]
  by_cases h0 : v.n = 0 <;> by_cases h1 : v.s = [] <;> by_cases h2 : v.a = 0 <;> by_cases h3 : v.b = 0 <;> by_cases h4 : v.c = 0 <;> simp [h0, h1, h2, h3, h4]
theorem confl4 (v : VL) (h : v.k = 4) : (v.n == 0 && (v.a == 0 && (v.b == 0 && v.c == 0))) = !confl v := by
  simp only [confl, h]
  by_cases h0 : v.n = 0 <;> by_cases h1 : v.s = [] <;> by_cases h2 : v.a = 0 <;> by_cases h3 : v.b = 0 <;> by_cases h4 : v.c = 0 <;> simp [h0, h1, h2, h3, h4]
theorem confl5 (v : VL) (h : v.k = 5) : (v.n == 0 && v.s == []) = !confl v := by
  simp only [confl, h]
  by_cases h0 : v.n = 0 <;> by_cases h1 : v.s = [] <;> by_cases h2 : v.a = 0 <;> by_cases h3 : v.b = 0 <;> by_cases h4 : v.c = 0 <;> simp [h0, h1, h2, h3, h4]
theorem tcCheck (v : VL) : TC Try.prog 61 [va v] (iv (ckV v)) := by
  refine tcW Try.func61 k61 h61 (by simp [c61]) (by simp) [] ?_
  by_cases hr : 1 ≤ v.k ∧ v.k ≤ 5
  rotate_left
  · have hf : (decide (1 ≤ v.k) && decide (v.k ≤ 5)) = false := by simp; omega
    simp only [go_sem, c61, va]
    refine Wcall_some (tcOf v.k) ?_
    simp only [go_sem, hf]
    simp only [ckV]
    rw [if_pos (by omega)]
  have hc : ¬ (v.k < 1 ∨ 5 < v.k) := by omega
  have hk : v.k = 1 ∨ v.k = 2 ∨ v.k = 3 ∨ v.k = 4 ∨ v.k = 5 := by omega
  have hf : (decide (1 ≤ v.k) && decide (v.k ≤ 5)) = true := by simp; omega
  rcases hk with hk | hk | hk | hk | hk
  · have hcod : codF v.k = .iface 114 (.agg []) := by rw [hk]; rfl
    have e := confl1 v hk
    simp only [go_sem, c61, va]
    refine Wcall_some (tcOf v.k) ?_
    simp only [go_sem, hf, hcod]
    refine Wdcall_at (tcUnused1 v) (by rfl) ?_
    simp only [go_sem, va, e]
    refine ⟨by decide, ?_⟩
    cases hcf : confl v
    rotate_left
    · simp only [go_sem]
      simp only [ckV]
      rw [if_neg hc, if_pos hcf]
    simp only [go_sem]
    refine Wcall_at (tcCheck1 v) (by rfl) ?_
    simp only [go_sem]
    simp [ckV, hcf, hk]
  · have hcod : codF v.k = .iface 115 (.agg []) := by rw [hk]; rfl
    have e := confl2 v hk
    simp only [go_sem, c61, va]
    refine Wcall_some (tcOf v.k) ?_
    simp only [go_sem, hf, hcod]
    refine Wdcall_at (tcUnused2 v) (by rfl) ?_
    simp only [go_sem, va, e]
    refine ⟨by decide, ?_⟩
    cases hcf : confl v
    rotate_left
    · simp only [go_sem]
      simp only [ckV]
      rw [if_neg hc, if_pos hcf]
    simp only [go_sem]
    refine Wcall_at (tcCheck2 v) (by rfl) ?_
    simp only [go_sem]
    simp [ckV, hcf, hk]
  · have hcod : codF v.k = .iface 116 (.agg []) := by rw [hk]; rfl
    have e := confl3 v hk
    simp only [go_sem, c61, va]
    refine Wcall_some (tcOf v.k) ?_
    simp only [go_sem, hf, hcod]
    refine Wdcall_at (tcUnused3 v) (by rfl) ?_
    simp only [go_sem, va, e]
    refine ⟨by decide, ?_⟩
    cases hcf : confl v
    rotate_left
    · simp only [go_sem]
      simp only [ckV]
      rw [if_neg hc, if_pos hcf]
    simp only [go_sem]
    refine Wcall_at (tcCheck3 v) (by rfl) ?_
    simp only [go_sem]
    simp [ckV, hcf, hk]
  · have hcod : codF v.k = .iface 117 (.agg []) := by rw [hk]; rfl
    have e := confl4 v hk
    simp only [go_sem, c61, va]
    refine Wcall_some (tcOf v.k) ?_
    simp only [go_sem, hf, hcod]
    refine Wdcall_at (tcUnused4 v) (by rfl) ?_
    simp only [go_sem, va, e]
    refine ⟨by decide, ?_⟩
    cases hcf : confl v
    rotate_left
    · simp only [go_sem]
      simp only [ckV]
      rw [if_neg hc, if_pos hcf]
    simp only [go_sem]
    refine Wcall_at (tcCheck4 v) (by rfl) ?_
    simp only [go_sem]
    simp [ckV, hcf, hk]
  · have hcod : codF v.k = .iface 118 (.agg []) := by rw [hk]; rfl
    have e := confl5 v hk
    simp only [go_sem, c61, va]
    refine Wcall_some (tcOf v.k) ?_
    simp only [go_sem, hf, hcod]
    refine Wdcall_at (tcUnused5 v) (by rfl) ?_
    simp only [go_sem, va, e]
    refine ⟨by decide, ?_⟩
    cases hcf : confl v
    rotate_left
    · simp only [go_sem]
      simp only [ckV]
      rw [if_neg hc, if_pos hcf]
    simp only [go_sem]
    refine Wcall_at (tcCheck5 v) (by rfl) ?_
    simp only [go_sem]
    simp [ckV, hcf, hk]
end Go.Proofs.Ytokbcminleemaaa.Vc
