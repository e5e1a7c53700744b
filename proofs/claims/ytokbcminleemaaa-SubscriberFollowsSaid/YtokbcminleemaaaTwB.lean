/- Laws of subscribers: follows. -/
import Derived.Test.YtokbcminleemaaaTwA
set_option linter.unusedSimpArgs false
set_option linter.unusedVariables false
set_option linter.unusedSectionVars false
namespace Go.Proofs.Ytokbcminleemaaa.Vc
open Go Go.Vk Go.Tv Go.Proofs
set_option maxRecDepth 100000
set_option maxHeartbeats 4000000
attribute [local go_sem ↓] W_skip W_reg W_draw W_seq W_cond W_block W_exit W_label W_goto W_ret Kseq_norm Kseq_ret Kseq_ex Kseq_go Kseq_pan Kblk_norm Kblk_ret Kblk_self Kblk_ne Kblk_go Kblk_pan Kloop_ret Kloop_ex Kloop_go Kloop_pan KseqS_norm KseqS_ret KseqS_ex KseqS_pan Kend_norm Kend_ret Kend_ex KscS_norm KscS_ret KscS_ex KscS_go Wr_nil Wr_g Wg_11 Wg_00 Wg_10 Wg_01 Wg_skip Wr_call Wr_callv Wr_inv Winv_if Winv2_some Wr_panic Wr_isnil Wr_op Ev_some Wcv_fn Wd_callv Wd_inv Wdcv_fn Wdinv_if Wdinv2_some ifV_agg ifV_int Wnil_some Wpan_if Wcond_t Wcond_f Wd_nil Wd_g Wd_call Wd_op Wdg_11 Wdg_00 Wdg_10 Wdg_01 Wdg_skip Evd_some step_some step_none val_t val_c get_mk obf_mk rdl_nil rdl_cons aget_cons aget_nil
attribute [local go_sem] pl_mv pl_pick pl_box pl_build pl_bsl pl_ld pl_st pl_nilc pl_bin pl_eqb pl_eq pl_eqn pl_un pl_cvi pl_cvs pl_s2b pl_b2s pl_mki pl_mkf pl_mks pl_sl pl_sls pl_fa pl_fld pl_ia pl_iaA pl_ix pl_ixs pl_ta pl_ex pl_len pl_lens pl_mn pl_mx pl_app pl_apps ev aset adel upd Option.getD_some passAll passV List.append_nil reduceIte Nat.reduceEqDiff decide_eq_true_eq Bool.false_eq_true Bool.true_eq_false reduceCtorEq Nat.reduceAdd updf V.sliceOf placeD placeV V.toDs V.toD1 V.cells List.map_cons List.map_nil Nat.mul_one Nat.zero_mul List.length_nil List.length_cons Nat.zero_add List.nil_append true_and and_true and_self Nat.zero_lt_one if_true if_false Nat.reduceLT Nat.reduceLeDiff Nat.reduceMul splice List.take_zero List.drop_zero List.drop_nil Bool.not_true Bool.not_false bne_self_eq_false Bool.bne_true Bool.bne_false Bool.false_bne Bool.true_bne List.cons_append eq_self Option.map_some Option.map_none boundO bound b_and b_or b_add b_sub b_mul b_rem b_eql b_neq b_lss b_leq b_gtr b_geq b_seql b_sneq b_shr8 b_shl8 decide_true decide_false IOp.xs List.flatMap_cons List.flatMap_nil V.ids V.ids1 V.ids0
attribute [local go_sem] Vk.RetB resVs resV outOf Vk.init recvs recvV recv enumFrom
attribute [local go_sem] bs_length NDs_length VLDs_length bs_nil bs_cons bytesOf_bs
attribute [local go_sem] le_1 le_2 le_3 le_4 le_5 le_6 le_7 le_8 le_9 le_10 le_11 le_12 le_o0 ck_bool ck_int ck_str ck_slice ck_ni ck_if ck_nils ck_own nat_nn Int.cast_ofNat_Int datas V.data? eqCells eqD Bool.true_and Bool.false_and List.all_cons List.all_nil Bool.and_true Bool.and_self List.take_succ_cons List.drop_succ_cons List.getElem?_cons_zero List.getElem?_cons_succ Int.toNat_natCast Nat.add_zero Nat.sub_zero
attribute [local go_sem] Int.reduceBEq Int.reduceBNe Int.reduceLT Int.reduceLE Int.reduceGT Int.reduceGE Int.reduceEq Int.reduceNe Int.reduceAdd Int.reduceSub Int.reduceMul Int.reduceToNat beq_self_eq_true bne_self_eq_false Nat.reduceBEq Nat.reduceSub ge_iff_le gt_iff_lt
def madeQ (f m : Int) : PS := ⟨3, 1 + f % 100, 1 + f % 100 + m % 900, 4, false, 0, 0, 0, 0, 0, 0, 0, []⟩
theorem madeQ_ok (f m : Int) : newP 3 (1 + f % 100) (1 + f % 100 + m % 900) 4 = (madeQ f m, 0) ∧ GP 3 4 0 (madeQ f m) := by
  exact GP.new (by omega) (by omega) (by omega) (by omega)
theorem tc14Follows (f m : Int) (L : List IP) (hL : L.length < 9223372036854775808) : TC Try.prog 11 [iv f, iv m, ips L] (tv true) := by
  refine tcW Try.func11 k11 h11 (by simp [c11]) (by simp) [] ?_
  obtain ⟨e0, g0⟩ := madeQ_ok f m
  have w1 : w64 (1 + f % 100) = 1 + f % 100 := w64_of (by omega)
  have w2 : w64 (1 + f % 100 + m % 900) = 1 + f % 100 + m % 900 := w64_of (by omega)
  simp only [go_sem, c11, ips]
  refine Wcall_some tcKnown14 ?_
  simp only [go_sem]
  refine Wcall_at (tcWithin14 f 100 (by omega)) (by rfl) ?_
  simp only [go_sem, w1]
  refine Wcall_at (tcWithin14 m 900 (by omega)) (by rfl) ?_
  simp only [go_sem, w2]
  refine Wcall_at (tcNewP 3 (1 + f % 100) (1 + f % 100 + m % 900) 4) (by rfl) ?_
  simp only [go_sem, e0, pa, pcells, vls]
  refine Wcall_at (tcNewS 3 4) (by rfl) ?_
  simp only [go_sem, sa, scells, vls]
  refine W_loop 232 [.keep 2, .keep 7, .keep 8, .keep 9, .keep 10] (fun k st => ∃ q r p s, L = q ++ r ∧ GP 3 4 q.length p ∧ SyL 0 p s ∧ q.length ≤ 300 ∧ k = r.length ∧ st = ⟨[(2, ips L), (7, .ptr 192 0), (8, iv 0), (9, .ptr 224 0), (10, iv q.length)], [(192, .box (pcells p)), (224, .box (scells s))], 2280⟩) (by omega) L.length _ (by simp [norm, normGo, boxesBelow, ownIds, adelAll, V.under, St.get, St.obf, aget, adel, ips, pcells, scells, vls]) ⟨[], L, madeQ f m, newS 3 4, rfl, g0, .inl ⟨rfl, rfl, rfl⟩, by simp, rfl, rfl⟩ ?_
  rintro k st ⟨q, r, p, s, hq, hG, hS, h300', rfl, rfl⟩
  cases r with
  | nil =>
    have hn : ¬ ((q.length : Int) < (L.length : Int)) := by subst hq; simp
    simp only [go_sem, hn, ips]
  | cons x r =>
    obtain ⟨c2, c3, hdrop, hpl⟩ := at_ip hq
    have w5 : w64 ((q.length : Int) + 1) = q.length + 1 := w64_of (by omega)
    by_cases h300 : (q.length : Int) < 300
    rotate_left
    · simp only [go_sem, c2, h300, ips]
    have okp := hG.ok (by omega)
    have oks := SyL.ok hG hS (by omega)
    obtain ⟨hS', hG', hon, hvs⟩ := hS.next hG (by omega) (by omega) x.w
    obtain ⟨p', hp'⟩ : ∃ p', p' = (sendF p s x.w false).1 := ⟨_, rfl⟩
    obtain ⟨s', hs'⟩ : ∃ s', s' = (sendF p s x.w false).2 := ⟨_, rfl⟩
    rw [← hp', ← hs'] at hS'
    rw [← hp'] at hG' hon hvs
    have oks' := SyL.ok hG' hS' (by omega)
    obtain ⟨u1, u2, u3⟩ := hS'.valid hG' hon
    have hlen : s'.vs.length ≤ 1000 := oks'.1
    obtain ⟨v1, v2⟩ := valsF_ok x.w
    simp only [go_sem, c2, c3, h300, hdrop, ips, IPDs_length, pcells, scells, vls]
    refine Wdcall_at (tcSend p s x.w false okp oks (step_len hG (by omega) x.w)) (by rfl) ?_
    rw [← hp', ← hs']
    simp only [go_sem, pa, pcells, sa, scells, vls]
    refine ⟨by rfl, ?_⟩
    refine Wdcall_at (tcValid s') (by rfl) ?_
    simp only [go_sem, u1, u2, c2, c3, hdrop, IPDs_length]
    refine Wdcall_at (tcValues x.w) (by rfl) ?_
    simp only [go_sem, vls]
    refine Wdcall_at (tcSameV s'.vs (valsF x.w) (by omega) (by omega)) (by rfl) ?_
    have e8 : decide (s'.vs = valsF x.w) = true := by simp [u3, hvs]
    simp only [go_sem, e8, w5, Kloop_norm]
    exact ⟨by rfl, r.length, _, by simp, (by simp [norm, normGo, boxesBelow, ownIds, adelAll, V.under, St.get, St.obf, aget, adel, pcells, scells, vls]; rfl), q ++ [x], r, p', s', by simp [hq], by simpa using hG', hS', by simp; omega, rfl, by simp [ips, pcells, scells, vls, u2]⟩
end Go.Proofs.Ytokbcminleemaaa.Vc
