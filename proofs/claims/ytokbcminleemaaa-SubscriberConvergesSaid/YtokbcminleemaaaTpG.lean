/- Contracts of functions: the check of a message. -/
import Derived.Test.YtokbcminleemaaaTpF
set_option linter.unusedSimpArgs false
set_option linter.unusedVariables false
set_option linter.unusedSectionVars false
namespace Go.Proofs.Ytokbcminleemaaa.Vc
open Go Go.Vk Go.Tv Go.Proofs
set_option maxRecDepth 100000
set_option maxHeartbeats 4000000
attribute [local go_sem ↓] W_skip W_reg W_draw W_seq W_cond W_block W_exit W_label W_goto W_ret Kseq_norm Kseq_ret Kseq_ex Kseq_go Kseq_pan Kblk_norm Kblk_ret Kblk_self Kblk_ne Kblk_go Kblk_pan Kloop_ret Kloop_ex Kloop_go Kloop_pan KseqS_norm KseqS_ret KseqS_ex KseqS_pan Kend_norm Kend_ret Kend_ex KscS_norm KscS_ret KscS_ex KscS_go Wr_nil Wr_g Wg_11 Wg_00 Wg_10 Wg_01 Wg_skip Wr_call Wr_callv Wr_inv Winv_if Winv2_some Wr_panic Wr_isnil Wr_op Ev_some Wcv_fn Wd_callv Wd_inv Wdcv_fn Wdinv_if Wdinv2_some ifV_agg ifV_int Wnil_some Wpan_if Wcond_t Wcond_f Wd_nil Wd_g Wd_call Wd_op Wdg_11 Wdg_00 Wdg_10 Wdg_01 Wdg_skip Evd_some step_some step_none val_t val_c get_mk obf_mk rdl_nil rdl_cons aget_cons aget_nil
attribute [local go_sem] pl_mv pl_pick pl_box pl_build pl_bsl pl_ld pl_st pl_nilc pl_bin pl_eqb pl_eq pl_eqn pl_un pl_cvi pl_cvs pl_s2b pl_b2s pl_mki pl_mkf pl_mks pl_sl pl_sls pl_fa pl_fld pl_ia pl_iaA pl_ix pl_ixs pl_ta pl_ex pl_len pl_lens pl_mn pl_mx pl_app pl_apps ev aset adel upd Option.getD_some passAll passV List.append_nil reduceIte Nat.reduceEqDiff decide_eq_true_eq Bool.false_eq_true Bool.true_eq_false reduceCtorEq Nat.reduceAdd updf V.sliceOf placeD placeV V.toDs V.toD1 V.cells List.map_cons List.map_nil Nat.mul_one Nat.zero_mul List.length_nil List.length_cons Nat.zero_add List.nil_append true_and and_true and_self Nat.zero_lt_one if_true if_false Nat.reduceLT Nat.reduceLeDiff Nat.reduceMul splice List.take_zero List.drop_zero List.drop_nil Bool.not_true Bool.not_false bne_self_eq_false Bool.bne_true Bool.bne_false Bool.false_bne Bool.true_bne List.cons_append eq_self Option.map_some Option.map_none boundO bound b_and b_or b_add b_sub b_mul b_rem b_eql b_neq b_lss b_leq b_gtr b_geq b_seql b_sneq b_shr8 b_shl8 decide_true decide_false IOp.xs List.flatMap_cons List.flatMap_nil V.ids V.ids1 V.ids0
attribute [local go_sem] Vk.RetB resVs resV outOf Vk.init recvs recvV recv enumFrom
attribute [local go_sem] bs_length NDs_length VLDs_length bs_nil bs_cons bytesOf_bs
attribute [local go_sem] le_1 le_2 le_3 le_4 le_5 le_6 le_7 le_8 le_9 le_10 le_11 le_12 le_o0 ck_bool ck_int ck_str ck_slice ck_ni ck_if ck_nils ck_own nat_nn Int.cast_ofNat_Int datas V.data? eqCells eqD Bool.true_and Bool.false_and List.all_cons List.all_nil Bool.and_true Bool.and_self List.take_succ_cons List.drop_succ_cons List.getElem?_cons_zero List.getElem?_cons_succ Int.toNat_natCast Nat.add_zero Nat.sub_zero
attribute [local go_sem] Int.reduceBEq Int.reduceBNe Int.reduceLT Int.reduceLE Int.reduceGT Int.reduceGE Int.reduceEq Int.reduceNe Int.reduceAdd Int.reduceSub Int.reduceMul Int.reduceToNat beq_self_eq_true bne_self_eq_false Nat.reduceBEq Nat.reduceSub ge_iff_le gt_iff_lt
theorem in_and (n a b : Int) : (decide (a ≤ n) && decide (n ≤ b)) = decide (a ≤ n ∧ n ≤ b) := by simp
def okH (m : MS) : Bool := decide (0 ≤ m.pub ∧ m.pub ≤ 999) && (decide (1 ≤ m.ttl ∧ m.ttl ≤ 65535) && (decide (1 ≤ m.st ∧ m.st ≤ 4294967295) && (decide (0 ≤ m.sq ∧ m.sq ≤ 4294967295) && decide (0 ≤ m.rev ∧ m.rev ≤ 4294967295))))
def ckT (m : MS) : Int := ckV ⟨5, 0, [], m.ta, m.tb, m.tc⟩
theorem ckM_eq (m : MS) : ckM m = if okH m = true then (if ckT m ≠ 0 then ckT m else if 24 < m.vs.length then 3 else ckVs m.vs) else 2 := by
  unfold ckM okH ckT mostN
  congr 1
  simp
theorem tcMCheck (m : MS) (hv : m.vs.length ≤ 1099511627776) : TC Try.prog 36 [ma m] (iv (ckM m)) := by
  refine tcW Try.func36 k36 h36 (by simp [c36]) (by simp) [] ?_
  rw [ckM_eq]
  simp only [go_sem, c36, ma, mcells, vls]
  refine Wcall_some (tcIn m.pub 0 999) ?_
  rw [in_and]
  cases h1 : decide (0 ≤ m.pub ∧ m.pub ≤ 999)
  · simp only [go_sem, okH, h1]
  simp only [go_sem]
  refine Wcall_some (tcIn m.ttl 1 65535) ?_
  rw [in_and]
  cases h2 : decide (1 ≤ m.ttl ∧ m.ttl ≤ 65535)
  · simp only [go_sem, okH, h1, h2]
  simp only [go_sem]
  refine Wcall_some (tcIn m.st 1 4294967295) ?_
  rw [in_and]
  cases h3 : decide (1 ≤ m.st ∧ m.st ≤ 4294967295)
  · simp only [go_sem, okH, h1, h2, h3]
  simp only [go_sem]
  refine Wcall_some (tcIn m.sq 0 4294967295) ?_
  rw [in_and]
  cases h4 : decide (0 ≤ m.sq ∧ m.sq ≤ 4294967295)
  · simp only [go_sem, okH, h1, h2, h3, h4]
  simp only [go_sem]
  refine Wcall_some (tcIn m.rev 0 4294967295) ?_
  rw [in_and]
  cases h5 : decide (0 ≤ m.rev ∧ m.rev ≤ 4294967295)
  · simp only [go_sem, okH, h1, h2, h3, h4, h5]
  simp only [go_sem]
  refine Wcall_at (tcCheck ⟨5, 0, [], m.ta, m.tb, m.tc⟩) (by rfl) ?_
  have e1 : okH m = true := by simp only [okH, h1, h2, h3, h4, h5, Bool.and_self]
  have e2 : ckV ⟨5, 0, [], m.ta, m.tb, m.tc⟩ = ckT m := rfl
  rw [e2, if_pos e1]
  by_cases h6 : ckT m = 0
  rotate_left
  · have h7 : (ckT m != 0) = true := by simpa using h6
    simp only [go_sem, h7]
    rw [if_pos h6]
  have h7 : ¬ (ckT m ≠ 0) := by simpa using h6
  rw [if_neg h7, h6]
  simp only [go_sem]
  by_cases h8 : (24 : Int) < m.vs.length
  · have h9 : 24 < m.vs.length := by omega
    simp only [go_sem, h8, h9]
  have h9 : ¬ 24 < m.vs.length := by omega
  rw [if_neg h9]
  simp only [go_sem, h8]
  refine W_loop 72 [.keep 47, .keep 48, .keep 49] (fun k st => ∃ p r, m.vs = p ++ r ∧ ckVs m.vs = ckVs r ∧ k = r.length ∧ st = ⟨[(47, vls m.vs), (48, iv m.vs.length), (49, iv p.length)], [(64, .box (mcells m))], 2120⟩) (by omega) m.vs.length _ (by simp [norm, normGo, boxesBelow, ownIds, adelAll, V.under, St.get, St.obf, aget, adel, vls, mcells]) ⟨[], m.vs, rfl, rfl, rfl, rfl⟩ ?_
  rintro k st ⟨p, r, hL, hc, rfl, rfl⟩
  cases r with
  | nil =>
    have hn : ¬ ((p.length : Int) < (m.vs.length : Int)) := by rw [hL]; simp
    simp only [go_sem, hn, vls]
    rw [hc]; rfl
  | cons x r =>
    obtain ⟨c2, c3, hdrop, hpl⟩ := at_val hL
    have w5 : w64 ((p.length : Int) + 1) = p.length + 1 := w64_of (by omega)
    simp only [go_sem, c2, c3, hdrop, vls]
    refine Wcall_at (tcCheck x) (by rfl) ?_
    by_cases hx : ckV x = 0
    · simp only [go_sem, hx, w5, Kloop_norm]
      exact ⟨r.length, _, by simp, (by simp [norm, normGo, boxesBelow, ownIds, adelAll, V.under, St.get, St.obf, aget, adel]; rfl), p ++ [x], r, by simp [hL], by rw [hc, ckVs, if_pos hx], rfl, by simp [vls, mcells]⟩
    · have hx2 : (ckV x != 0) = true := by simpa using hx
      simp only [go_sem, hx2]
      rw [hc, ckVs, if_neg hx]
theorem tcRMCheck (m : MS) (hv : m.vs.length ≤ 1099511627776) (hs : ∀ v ∈ m.vs, v.s.length ≤ 1099511627776) : TC Try.prog 26 [ma m] (iv (ckM m)) := by
  refine tcW Try.func26 k26 h26 (by simp [c26]) (by simp) [] ?_
  rw [ckM_eq]
  simp only [go_sem, c26, ma, mcells, vls]
  refine Wcall_some (tcBetween12 m.pub 0 999) ?_
  rw [in_and]
  cases h1 : decide (0 ≤ m.pub ∧ m.pub ≤ 999)
  · simp only [go_sem, okH, h1]
  simp only [go_sem]
  refine Wcall_some (tcBetween12 m.ttl 1 65535) ?_
  rw [in_and]
  cases h2 : decide (1 ≤ m.ttl ∧ m.ttl ≤ 65535)
  · simp only [go_sem, okH, h1, h2]
  simp only [go_sem]
  refine Wcall_some (tcBetween12 m.st 1 4294967295) ?_
  rw [in_and]
  cases h3 : decide (1 ≤ m.st ∧ m.st ≤ 4294967295)
  · simp only [go_sem, okH, h1, h2, h3]
  simp only [go_sem]
  refine Wcall_some (tcBetween12 m.sq 0 4294967295) ?_
  rw [in_and]
  cases h4 : decide (0 ≤ m.sq ∧ m.sq ≤ 4294967295)
  · simp only [go_sem, okH, h1, h2, h3, h4]
  simp only [go_sem]
  refine Wcall_some (tcBetween12 m.rev 0 4294967295) ?_
  rw [in_and]
  cases h5 : decide (0 ≤ m.rev ∧ m.rev ≤ 4294967295)
  · simp only [go_sem, okH, h1, h2, h3, h4, h5]
  simp only [go_sem]
  refine Wcall_at (tcRCheck ⟨5, 0, [], m.ta, m.tb, m.tc⟩ (by simp)) (by rfl) ?_
  have e1 : okH m = true := by simp only [okH, h1, h2, h3, h4, h5, Bool.and_self]
  have e2 : ckV ⟨5, 0, [], m.ta, m.tb, m.tc⟩ = ckT m := rfl
  rw [e2, if_pos e1]
  by_cases h6 : ckT m = 0
  rotate_left
  · have h7 : (ckT m != 0) = true := by simpa using h6
    simp only [go_sem, h7]
    rw [if_pos h6]
  have h7 : ¬ (ckT m ≠ 0) := by simpa using h6
  rw [if_neg h7, h6]
  simp only [go_sem]
  by_cases h8 : (24 : Int) < m.vs.length
  · have h9 : 24 < m.vs.length := by omega
    simp only [go_sem, h8, h9]
  have h9 : ¬ 24 < m.vs.length := by omega
  rw [if_neg h9]
  simp only [go_sem, h8]
  refine W_loop 72 [.keep 1, .keep 4] (fun k st => ∃ p r, m.vs = p ++ r ∧ ckVs m.vs = ckVs r ∧ k = r.length ∧ st = ⟨[(1, .ptr 64 0), (4, iv p.length)], [(64, .box (mcells m))], 2120⟩) (by omega) m.vs.length _ (by simp [norm, normGo, boxesBelow, ownIds, adelAll, V.under, St.get, St.obf, aget, adel, vls, mcells]) ⟨[], m.vs, rfl, rfl, rfl, rfl⟩ ?_
  rintro k st ⟨p, r, hL, hc, rfl, rfl⟩
  cases r with
  | nil =>
    have hn : ¬ ((p.length : Int) < (m.vs.length : Int)) := by rw [hL]; simp
    simp only [go_sem, hn, vls, mcells]
    rw [hc]; rfl
  | cons x r =>
    obtain ⟨c2, c3, hdrop, hpl⟩ := at_val hL
    have w5 : w64 ((p.length : Int) + 1) = p.length + 1 := w64_of (by omega)
    have hxs : x.s.length ≤ 1099511627776 := hs x (by rw [hL]; simp)
    simp only [go_sem, c2, c3, hdrop, vls, mcells]
    refine Wcall_at (tcRCheck x hxs) (by rfl) ?_
    by_cases hx : ckV x = 0
    · simp only [go_sem, hx, w5, Kloop_norm]
      exact ⟨r.length, _, by simp, (by simp [norm, normGo, boxesBelow, ownIds, adelAll, V.under, St.get, St.obf, aget, adel]; rfl), p ++ [x], r, by simp [hL], by rw [hc, ckVs, if_pos hx], rfl, by simp [vls, mcells]⟩
    · have hx2 : (ckV x != 0) = true := by simpa using hx
      simp only [go_sem, hx2]
      rw [hc, ckVs, if_neg hx]
end Go.Proofs.Ytokbcminleemaaa.Vc
