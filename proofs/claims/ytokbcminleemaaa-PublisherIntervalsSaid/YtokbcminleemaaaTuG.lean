/- Laws of publishers: intervals. -/
import Derived.Test.YtokbcminleemaaaTuD
set_option linter.unusedSimpArgs false
set_option linter.unusedVariables false
set_option linter.unusedSectionVars false
namespace Go.Proofs.Ytokbcminleemaaa.Vc
open Go Go.Vk Go.Tv Go.Proofs
set_option maxRecDepth 100000
set_option maxHeartbeats 4000000
attribute [local go_sem ↓] W_skip W_reg W_draw W_seq W_cond W_block W_exit W_label W_goto W_ret Kseq_norm Kseq_ret Kseq_ex Kseq_go Kseq_pan Kblk_norm Kblk_ret Kblk_self Kblk_ne Kblk_go Kblk_pan Kloop_ret Kloop_ex Kloop_go Kloop_pan KseqS_norm KseqS_ret KseqS_ex KseqS_pan Kend_norm Kend_ret Kend_ex KscS_norm KscS_ret KscS_ex KscS_go Wr_nil Wr_g Wg_11 Wg_00 Wg_10 Wg_01 Wg_skip Wr_call Wr_callv Wr_inv Winv_if Winv2_some Wr_panic Wr_isnil Wr_op Ev_some Wcv_fn Wd_callv Wd_inv Wdcv_fn Wdinv_if Wdinv2_some ifV_agg ifV_int Wnil_some Wpan_if Wcond_t Wcond_f Wd_nil Wd_g Wd_call Wd_op Wdg_11 Wdg_00 Wdg_10 Wdg_01 Wdg_skip Evd_some step_some step_none val_t val_c get_mk obf_mk rdl_nil rdl_cons aget_cons aget_nil
attribute [local go_sem] pl_mv pl_pick pl_box pl_build pl_bsl pl_ld pl_st pl_nilc pl_bin pl_eqb pl_eq pl_eqn pl_un pl_cvi pl_cvs pl_s2b pl_b2s pl_mki pl_mkf pl_mks pl_sl pl_sls pl_fa pl_fld pl_ia pl_iaA pl_ix pl_ixs pl_ta pl_ex pl_len pl_lens pl_mn pl_mx pl_app pl_apps ev aset adel upd Option.getD_some passAll passV List.append_nil reduceIte Nat.reduceEqDiff decide_eq_true_eq Bool.false_eq_true Bool.true_eq_false reduceCtorEq Nat.reduceAdd updf V.sliceOf placeD placeV V.toDs V.toD1 V.cells List.map_cons List.map_nil Nat.mul_one Nat.zero_mul List.length_nil List.length_cons Nat.zero_add List.nil_append true_and and_true and_self Nat.zero_lt_one if_true if_false Nat.reduceLT Nat.reduceLeDiff Nat.reduceMul splice List.take_zero List.drop_zero List.drop_nil Bool.not_true Bool.not_false bne_self_eq_false Bool.bne_true Bool.bne_false Bool.false_bne Bool.true_bne List.cons_append eq_self Option.map_some Option.map_none boundO bound b_and b_or b_add b_sub b_mul b_rem b_eql b_neq b_lss b_leq b_gtr b_geq b_seql b_sneq b_shr8 b_shl8 decide_true decide_false IOp.xs List.flatMap_cons List.flatMap_nil V.ids V.ids1 V.ids0
attribute [local go_sem] Vk.RetB resVs resV outOf Vk.init recvs recvV recv enumFrom
attribute [local go_sem] bs_length NDs_length VLDs_length bs_nil bs_cons bytesOf_bs
attribute [local go_sem] le_1 le_2 le_3 le_4 le_5 le_6 le_7 le_8 le_9 le_10 le_11 le_12 le_o0 ck_bool ck_int ck_str ck_slice ck_ni ck_if ck_nils ck_own nat_nn Int.cast_ofNat_Int datas V.data? eqCells eqD Bool.true_and Bool.false_and List.all_cons List.all_nil Bool.and_true Bool.and_self List.take_succ_cons List.drop_succ_cons List.getElem?_cons_zero List.getElem?_cons_succ Int.toNat_natCast Nat.add_zero Nat.sub_zero
attribute [local go_sem] Int.reduceBEq Int.reduceBNe Int.reduceLT Int.reduceLE Int.reduceGT Int.reduceGE Int.reduceEq Int.reduceNe Int.reduceAdd Int.reduceSub Int.reduceMul Int.reduceToNat beq_self_eq_true bne_self_eq_false Nat.reduceBEq Nat.reduceSub ge_iff_le gt_iff_lt
/-- Behind k steps with the same values: what the law counts along. -/
def In (k : Int) (p : PS) (gap since seq : Int) : Prop :=
  (k = 0 ∧ p.on = false ∧ gap = p.first ∧ since = 0 ∧ seq = 0) ∨ (1 ≤ k ∧ p.on = true ∧ p.vs = valsF 2 ∧ gap = p.gap ∧ since = p.since ∧ seq = p.sq ∧ p.st = 1 ∧ p.ta = 0 ∧ p.tb = 0 ∧ p.tc = 0)
theorem tc13Intervals (f m n : Int) : TC Try.prog 7 [iv f, iv m, iv n] (tv true) := by
  refine tcW Try.func7 k7 h7 (by simp [c7]) (by simp) [] ?_
  obtain ⟨_, g0⟩ := madeP_ok f m
  have n0 := Int.emod_nonneg n (show (3000 : Int) ≠ 0 by omega)
  have n1 := Int.emod_lt_of_pos n (show (0 : Int) < 3000 by omega)
  simp only [go_sem, c7]
  refine Wcall_some tcKnown13 ?_
  simp only [go_sem]
  refine Wcall_some (tcMade f m) ?_
  simp only [go_sem, pa, pcells, vls]
  refine W_loop 120 [.keep 2, .keep 7, .keep 8, .keep 9, .keep 10, .keep 11] (fun j st => ∃ (k : Nat) (p : PS) (gap since seq : Int), (k : Int) ≤ n % 3000 + 1 ∧ GP 7 9 k p ∧ In k p gap since seq ∧ j = (n % 3000 + 1).toNat - k ∧ st = ⟨[(2, iv n), (7, .ptr 112 0), (8, iv gap), (9, iv since), (10, iv seq), (11, iv k)], [(112, .box (pcells p))], 2168⟩) (by omega) (n % 3000 + 1).toNat _ (by simp [norm, normGo, boxesBelow, ownIds, adelAll, V.under, St.get, St.obf, aget, adel, pcells, vls]) ⟨0, madeP f m, (madeP f m).first, 0, 0, by simp; omega, g0, .inl ⟨rfl, rfl, rfl, rfl, rfl⟩, rfl, rfl⟩ ?_
  rintro j st ⟨k, p, gap, since, seq, hk, hG, hI, rfl, rfl⟩
  simp only [go_sem]
  refine Wcall_at (tcWithin13 n 3000 (by omega)) (by rfl) ?_
  by_cases hle : (k : Int) ≤ n % 3000
  rotate_left
  · simp only [go_sem, hle]
  have w5 : w64 ((k : Int) + 1) = k + 1 := w64_of (by omega)
  have okp := hG.ok (by omega)
  have hlen : p.vs.length ≤ 1000 := okp.1
  have f1 := hG.first
  have f2 := hG.max
  obtain ⟨v1, v2⟩ := valsF_ok 2
  have hT : ckV ⟨5, 0, [], (k : Int), 0, 0⟩ = 0 := ckT_of (by omega)
  have hstep := hG.step (by omega) (by omega) (by omega) (a := (k : Int)) (b := 0) (c := 0) v1 v2 hT
  simp only [go_sem, hle, pcells, vls]
  refine Wdcall_at (tcValues 2) (by rfl) ?_
  simp only [go_sem, vls]
  refine Wdcall_at (tcStep p (valsF 2) k 0 0 okp (by decide)) (by rfl) ?_
  rcases hI with ⟨h1, h2, h3, h4, h5⟩ | ⟨h1, h2, h3, h4, h5, h6, h7, h8, h9, h10⟩
  · -- the first step
    rcases hstep with ⟨hc, he, hG', _⟩ | ⟨hon, _⟩ | ⟨hon, _⟩
    · obtain rfl : k = 0 := by omega
      obtain ⟨p', hp'⟩ : ∃ p', p' = changeP p (valsF 2) 0 0 0 := ⟨_, rfl⟩
      have he : stepF p (valsF 2) 0 0 0 = (changeP p (valsF 2) 0 0 0, some (sentM (changeP p (valsF 2) 0 0 0))) := he
      have hG' : GP 7 9 1 (changeP p (valsF 2) 0 0 0) := hG'
      rw [← hp'] at he hG'
      have a1 : p'.sq = 0 ∧ p'.st = 1 ∧ p'.ta = 0 ∧ p'.tb = 0 ∧ p'.tc = 0 ∧ p'.gap = p.first ∧ p'.since = 0 ∧ p'.on = true ∧ p'.vs = valsF 2 := by
        rw [hp']; simp [changeP, h2]
      obtain ⟨b1, b2, b3, b4, b5, b6, b7, b8, b9⟩ := a1
      have w3 : w64 (3 * p.first) = 3 * p.first := w64_of (by omega)
      have w4 : w64 (3 * p.first + 1) = 3 * p.first + 1 := w64_of (by omega)
      subst h3; subst h4; subst h5
      simp only [go_sem, he, pa, pcells, vls, msV, mD, sentM, b1, b2, b3, b4, b5, b6]
      refine ⟨by rfl, ?_⟩
      simp only [go_sem, w3, w4, Kloop_norm, w5]
      exact ⟨(n % 3000 + 1).toNat - 1, _, by omega, (by simp [norm, normGo, boxesBelow, ownIds, adelAll, V.under, St.get, St.obf, aget, adel, pcells, vls]; rfl), 1, p', p.first, 0, 0, by omega, by simpa using hG', .inr ⟨by omega, b8, b9, b6.symm, b7.symm, b1.symm, b2, b3, b4, b5⟩, rfl, by simp [pcells, vls, b1, b2, b3, b4, b5, b6, show w64 1 = 1 from rfl]⟩
    · rw [h2] at hon; cases hon
    · rw [h2] at hon; cases hon
  · have hk0 : ((k : Int) == 0) = false := by simp; omega
    have hkp : (0 : Int) < k := by omega
    obtain ⟨g1, g2, g3, g4⟩ := hG.on h2
    have w6 : w64 (since + 1) = since + 1 := w64_of (by omega)
    rcases hstep with ⟨hc, _⟩ | ⟨hon, hvs, hg, he, hG', _⟩ | ⟨hon, hvs, hg, he, hG'⟩
    · rcases hc with h | h
      · rw [h2] at h; cases h
      · exact absurd h3.symm h
    · obtain ⟨p', hp'⟩ : ∃ p', p' = repeatP p := ⟨_, rfl⟩
      rw [← hp'] at he hG'
      have a1 : p'.sq = p.sq + 1 ∧ p'.st = 1 ∧ p'.ta = 0 ∧ p'.tb = 0 ∧ p'.tc = 0 ∧ p'.gap = min (2 * p.gap) p.max ∧ p'.since = 0 ∧ p'.on = true ∧ p'.vs = valsF 2 ∧ p'.max = p.max := by
        rw [hp']; simp [repeatP, h2, h3, h7, h8, h9, h10, afterF, mostN, show ¬ p.sq = 4294967295 from by omega]
      obtain ⟨b1, b2, b3, b4, b5, b6, b7, b8, b9, b10⟩ := a1
      have w3 : w64 (2 * gap) = 2 * gap := w64_of (by omega)
      have w4 : w64 (seq + 1) = seq + 1 := w64_of (by omega)
      have w7 : w64 (3 * min (2 * gap) p.max) = 3 * min (2 * gap) p.max := w64_of (by omega)
      have w8 : w64 (3 * min (2 * gap) p.max + 1) = 3 * min (2 * gap) p.max + 1 := w64_of (by omega)
      have e1 : (since + 1 == gap) = true := by simp; omega
      have hgg : p.gap = gap := h4.symm
      have hqq : p.sq = seq := h6.symm
      simp only [go_sem, he, pa, pcells, vls, msV, mD, sentM, b1, b2, b3, b4, b5, b6, hk0, hgg, hqq]
      refine ⟨by rfl, ?_⟩
      simp only [go_sem, hk0, w6, e1, hkp, w3, mn_rule, w4, w7, w8, w5, Kloop_norm]
      exact ⟨(n % 3000 + 1).toNat - (k + 1), _, by omega, (by simp [norm, normGo, boxesBelow, ownIds, adelAll, V.under, St.get, St.obf, aget, adel, pcells, vls]; rfl), k + 1, p', min (2 * gap) p.max, 0, seq + 1, by omega, by simpa using hG', .inr ⟨by omega, b8, b9, by rw [b6, hgg], b7.symm, by rw [b1, hqq], b2, b3, b4, b5⟩, rfl, by simp [pcells, vls, b1, b2, b3, b4, b5, b6, hgg, hqq]⟩
    · have e1 : (since + 1 == gap) = false := by simp; omega
      simp only [go_sem, he, pa, pcells, vls, msV, hk0]
      refine ⟨by rfl, ?_⟩
      simp only [go_sem, hk0, w6, e1, hkp, w5, Kloop_norm]
      exact ⟨(n % 3000 + 1).toNat - (k + 1), _, by omega, (by simp [norm, normGo, boxesBelow, ownIds, adelAll, V.under, St.get, St.obf, aget, adel, pcells, vls]; rfl), k + 1, { p with since := p.since + 1 }, gap, since + 1, seq, by omega, by simpa using hG'.mono (by omega), .inr ⟨by omega, h2, h3, h4, by simp only []; omega, h6, h7, h8, h9, h10⟩, rfl, by simp [pcells, vls]⟩
end Go.Proofs.Ytokbcminleemaaa.Vc
