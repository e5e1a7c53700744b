/- Contracts of functions: what a subscriber does with a message. -/
import Derived.Test.YtokbcminleemaaaTsA
set_option linter.unusedSimpArgs false
set_option linter.unusedVariables false
set_option linter.unusedSectionVars false
namespace Go.Proofs.Ytokbcminleemaaa.Vc
open Go Go.Vk Go.Tv Go.Proofs
set_option maxRecDepth 100000
set_option maxHeartbeats 4000000
attribute [local go_sem ↓] W_skip W_reg W_draw W_seq W_cond W_block W_exit W_label W_goto W_ret Kseq_norm Kseq_ret Kseq_ex Kseq_go Kseq_pan Kblk_norm Kblk_ret Kblk_self Kblk_ne Kblk_go Kblk_pan Kloop_ret Kloop_ex Kloop_go Kloop_pan KseqS_norm KseqS_ret KseqS_ex KseqS_pan Kend_norm Kend_ret Kend_ex KscS_norm KscS_ret KscS_ex KscS_go Wr_nil Wr_g Wg_11 Wg_00 Wg_10 Wg_01 Wg_skip Wr_call Wr_callv Wr_inv Winv_if Winv2_some Wr_panic Wr_isnil Wr_op Ev_some Wcv_fn Wd_callv Wd_inv Wdcv_fn Wdinv_if Wdinv2_some ifV_agg ifV_int Wnil_some Wpan_if Wcond_t Wcond_f Wd_nil Wd_g Wd_call Wd_op Wdg_11 Wdg_00 Wdg_10 Wdg_01 Wdg_skip Evd_some step_some step_none val_t val_c get_mk obf_mk rdl_nil rdl_cons aget_cons aget_nil
attribute [local go_sem] pl_mv pl_pick pl_box pl_build pl_bsl pl_ld pl_st pl_nilc pl_bin pl_eqb pl_eq pl_eqn pl_un pl_cvi pl_cvs pl_s2b pl_b2s pl_mki pl_mkf pl_mks pl_sl pl_sls pl_fa pl_fld pl_ia pl_iaA pl_ix pl_ixs pl_ta pl_ex pl_len pl_lens pl_mn pl_mx pl_app pl_apps ev aset adel upd Option.getD_some passAll passV List.append_nil reduceIte Nat.reduceEqDiff decide_eq_true_eq Bool.false_eq_true Bool.true_eq_false reduceCtorEq Nat.reduceAdd updf V.sliceOf placeD placeV V.toDs V.toD1 V.cells List.map_cons List.map_nil Nat.mul_one Nat.zero_mul List.length_nil List.length_cons Nat.zero_add List.nil_append true_and and_true and_self Nat.zero_lt_one if_true if_false Nat.reduceLT Nat.reduceLeDiff Nat.reduceMul splice List.take_zero List.drop_zero List.drop_nil Bool.not_true Bool.not_false bne_self_eq_false Bool.bne_true Bool.bne_false Bool.false_bne Bool.true_bne List.cons_append eq_self Option.map_some Option.map_none boundO bound b_and b_or b_add b_sub b_mul b_rem b_eql b_neq b_lss b_leq b_gtr b_geq b_seql b_sneq b_shr8 b_shl8 decide_true decide_false IOp.xs List.flatMap_cons List.flatMap_nil V.ids V.ids1 V.ids0
attribute [local go_sem] Vk.RetB resVs resV outOf Vk.init recvs recvV recv enumFrom
attribute [local go_sem] bs_length NDs_length VLDs_length bs_nil bs_cons bytesOf_bs
attribute [local go_sem] le_1 le_2 le_3 le_4 le_5 le_6 le_7 le_8 le_9 le_10 le_11 le_12 le_o0 ck_bool ck_int ck_str ck_slice ck_ni ck_if ck_nils ck_own nat_nn Int.cast_ofNat_Int datas V.data? eqCells eqD Bool.true_and Bool.false_and List.all_cons List.all_nil Bool.and_true Bool.and_self List.take_succ_cons List.drop_succ_cons List.getElem?_cons_zero List.getElem?_cons_succ Int.toNat_natCast Nat.add_zero Nat.sub_zero
attribute [local go_sem] Int.reduceBEq Int.reduceBNe Int.reduceLT Int.reduceLE Int.reduceGT Int.reduceGE Int.reduceEq Int.reduceNe Int.reduceAdd Int.reduceSub Int.reduceMul Int.reduceToNat beq_self_eq_true bne_self_eq_false Nat.reduceBEq Nat.reduceSub ge_iff_le gt_iff_lt
theorem distF_rng (a b : Int) : 0 ≤ distF a b ∧ distF a b < 4294967295 := by
  unfold distF mostN
  exact ⟨Int.emod_nonneg _ (by omega), Int.emod_lt_of_pos _ (by omega)⟩
theorem ckM_okH {m : MS} (h : ckM m = 0) : okH m = true := by
  rw [ckM_eq] at h
  split at h
  · assumption
  · simp at h
theorem okH_spec {m : MS} (h : okH m = true) : (0 ≤ m.pub ∧ m.pub ≤ 999) ∧ (1 ≤ m.ttl ∧ m.ttl ≤ 65535) ∧ (1 ≤ m.st ∧ m.st ≤ 4294967295) ∧ (0 ≤ m.sq ∧ m.sq ≤ 4294967295) ∧ (0 ≤ m.rev ∧ m.rev ≤ 4294967295) := by
  simpa [okH] using h
theorem tcTake (s : SS) (m : MS) (hs : s.vs.length ≤ 1099511627776) (hm : m.vs.length ≤ 1099511627776) (hl : -9223372036854775808 ≤ s.lost) : TC Try.prog 19 [sa s, ma m] (.tup [sa (takeF s m).1, iv (takeF s m).2]) := by
  refine tcSI Try.func19 k19 h19 (by simp [c19]) (by simp) [] ?_
  obtain ⟨d0, d1⟩ := distF_rng s.st m.st
  obtain ⟨q0, q1⟩ := distF_rng s.sq m.sq
  simp only [go_sem, c19, sa, scells, ma, mcells, vls]
  refine SI_seqW ?_
  simp only [go_sem]
  refine SI_scope1 0 rfl ?_
  simp only [go_sem]
  refine Wdcall_at (tcDistance s.st m.st) (by rfl) ?_
  simp only [go_sem]
  refine Wdcall_at (tcDistance s.sq m.sq) (by rfl) ?_
  simp only [go_sem]
  refine ⟨by decide, ?_⟩
  refine Wcall_at (tcMCheck m hm) (by rfl) ?_
  by_cases hc : ckM m = 0
  rotate_left
  · have e : (ckM m != 0) = true := by simpa using hc
    have et : takeF s m = (s, 0) := by unfold takeF; rw [if_pos (.inl hc)]
    simp only [go_sem, e]
    refine Wcall_at (tcCopied s hs) (by rfl) ?_
    simp only [go_sem, sa, scells, vls, et]
  obtain ⟨o1, o2, o3, o4, o5⟩ := okH_spec (ckM_okH hc)
  simp only [go_sem, hc]
  by_cases hp : m.pub = s.pub
  rotate_left
  · have e : (m.pub != s.pub) = true := by simpa using hp
    have et : takeF s m = (s, 0) := by unfold takeF; rw [if_pos (.inr (.inl hp))]
    simp only [go_sem, e]
    refine Wcall_at (tcCopied s hs) (by rfl) ?_
    simp only [go_sem, sa, scells, vls, et]
  have ep : (m.pub != s.pub) = false := by simpa using hp
  simp only [go_sem, ep]
  by_cases hr : m.rev = s.rev
  rotate_left
  · have e : (m.rev != s.rev) = true := by simpa using hr
    have et : takeF s m = (s, 0) := by unfold takeF; rw [if_pos (.inr (.inr hr))]
    simp only [go_sem, e]
    refine Wcall_at (tcCopied s hs) (by rfl) ?_
    simp only [go_sem, sa, scells, vls, et]
  have er : (m.rev != s.rev) = false := by simpa using hr
  simp only [go_sem, er]
  have hnf : ¬ (ckM m ≠ 0 ∨ m.pub ≠ s.pub ∨ m.rev ≠ s.rev) := by
    rintro (h | h | h)
    · exact h hc
    · exact h hp
    · exact h hr
  cases hk : s.kn
  · have et : takeF s m = (accF s m 0, 1) := by unfold takeF; rw [if_neg hnf, if_pos hk]
    simp only [go_sem]
    refine ⟨[(3, 0, 0)], ?_⟩
    simp only [go_sem]
    refine Wcall_at (tcAccept 1 0 s m hm (by omega) (by omega) hl) (by simp [mD, sD, hk]) ?_
    simp only [go_sem, sa, scells, vls, et]
  simp only [go_sem]
  have hnk : ¬ s.kn = false := by rw [hk]; simp
  by_cases h1 : s.left < 1
  · have et : takeF s m = (accF s m 0, 5) := by unfold takeF; rw [if_neg hnf, if_neg hnk, if_pos h1]
    simp only [go_sem, h1]
    refine ⟨[(3, 0, 0)], ?_⟩
    simp only [go_sem]
    refine Wcall_at (tcAccept 5 0 s m hm (by omega) (by omega) hl) (by simp [mD, sD, hk]) ?_
    simp only [go_sem, sa, scells, vls, et]
  simp only [go_sem, h1]
  by_cases h2 : m.st = s.st
  · have et : takeF s m = if newerF (distF s.sq m.sq) = true ∧ m.te = s.te ∧ m.vs = s.vs then (accF s m (distF s.sq m.sq - 1), 3) else (s, 4) := by unfold takeF; rw [if_neg hnf, if_neg hnk, if_neg h1, if_pos h2]
    have e2 : (m.st == s.st) = true := by simpa using h2
    simp only [go_sem, e2]
    refine Wcall_at (tcNewer _) (by rfl) ?_
    cases hw : newerF (distF s.sq m.sq)
    · have et2 : takeF s m = (s, 4) := by rw [et, hw]; simp
      simp only [go_sem]
      refine Wcall_at (tcCopied s hs) (by simp [sa, scells, vls, hk]) ?_
      simp only [go_sem, sa, scells, vls, et2]
    simp only [go_sem]
    by_cases h3 : m.te = s.te
    rotate_left
    · have e : (m.te == s.te) = false := by simpa using h3
      have et2 : takeF s m = (s, 4) := by rw [et, if_neg (fun h => h3 h.2.1)]
      simp only [go_sem, e]
      refine Wcall_at (tcCopied s hs) (by simp [sa, scells, vls, hk]) ?_
      simp only [go_sem, sa, scells, vls, et2]
    have e3 : (m.te == s.te) = true := by simpa using h3
    simp only [go_sem, e3]
    refine Wcall_at (tcSameV m.vs s.vs hm hs) (by rfl) ?_
    by_cases h4 : m.vs = s.vs
    rotate_left
    · have et2 : takeF s m = (s, 4) := by rw [et, if_neg (fun h => h4 h.2.2)]
      simp only [go_sem, h4]
      refine Wcall_at (tcCopied s hs) (by simp [sa, scells, vls, hk]) ?_
      simp only [go_sem, sa, scells, vls, et2]
    have et2 : takeF s m = (accF s m (distF s.sq m.sq - 1), 3) := by rw [et, if_pos ⟨hw, h3, h4⟩]
    have hw1 : 1 ≤ distF s.sq m.sq := by simp [newerF] at hw; exact hw.1
    have w1 : w64 (distF s.sq m.sq - 1) = distF s.sq m.sq - 1 := w64_of (by omega)
    have hd : decide (m.vs = s.vs) = true := by simpa using h4
    simp only [go_sem, hd, w1]
    refine ⟨[(3, 0, 0)], ?_⟩
    simp only [go_sem]
    refine Wcall_at (tcAccept 3 (distF s.sq m.sq - 1) s m hm (by omega) (by omega) hl) (by simp [mD, sD, hk]) ?_
    simp only [go_sem, sa, scells, vls, et2]
  have e2 : (m.st == s.st) = false := by simpa using h2
  simp only [go_sem, e2]
  refine Wcall_at (tcNewer _) (by rfl) ?_
  have et : takeF s m = if newerF (distF s.st m.st) = true then (accF s m (distF s.st m.st - 1 + m.sq), 2) else (s, 4) := by unfold takeF; rw [if_neg hnf, if_neg hnk, if_neg h1, if_neg h2]
  cases hw : newerF (distF s.st m.st)
  · have et2 : takeF s m = (s, 4) := by rw [et, hw]; simp
    simp only [go_sem]
    refine Wcall_at (tcCopied s hs) (by simp [sa, scells, vls, hk]) ?_
    simp only [go_sem, sa, scells, vls, et2]
  have et2 : takeF s m = (accF s m (distF s.st m.st - 1 + m.sq), 2) := by rw [et, hw]; simp
  have hw1 : 1 ≤ distF s.st m.st := by simp [newerF] at hw; exact hw.1
  have w1 : w64 (distF s.st m.st - 1) = distF s.st m.st - 1 := w64_of (by omega)
  have w2 : w64 (distF s.st m.st - 1 + m.sq) = distF s.st m.st - 1 + m.sq := w64_of (by omega)
  simp only [go_sem, w1, w2]
  refine ⟨[(3, 0, 0)], ?_⟩
  simp only [go_sem]
  refine Wcall_at (tcAccept 2 (distF s.st m.st - 1 + m.sq) s m hm (by omega) (by omega) hl) (by simp [mD, sD, hk]) ?_
  simp only [go_sem, sa, scells, vls, et2]
end Go.Proofs.Ytokbcminleemaaa.Vc
