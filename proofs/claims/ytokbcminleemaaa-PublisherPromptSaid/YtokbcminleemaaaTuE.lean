/- Laws of publishers: prompt. -/
import Derived.Test.YtokbcminleemaaaTuD
set_option linter.unusedSimpArgs false
set_option linter.unusedVariables false
set_option linter.unusedSectionVars false
namespace Go.Proofs.Ytokbcminleemaaa.Vc
open Go Go.Vk Go.Tv Go.Proofs
set_option maxRecDepth 100000
set_option maxHeartbeats 4000000
attribute [local go_sem ↓] W_skip W_reg W_draw W_seq W_cond W_block W_exit W_label W_goto W_ret Kseq_norm Kseq_ret Kseq_ex Kseq_go Kseq_pan Kblk_norm Kblk_ret Kblk_self Kblk_ne Kblk_go Kblk_pan Kloop_ret Kloop_ex Kloop_go Kloop_pan KseqS_norm KseqS_ret KseqS_ex KseqS_pan Kend_norm Kend_ret Kend_ex KscS_norm KscS_ret KscS_ex KscS_go Wr_nil Wr_g Wg_11 Wg_00 Wg_10 Wg_01 Wg_skip Wr_call Wr_callv Wr_inv Winv_if Winv2_some Wr_panic Wr_isnil Wr_op Ev_some Wcv_fn Wd_callv Wd_inv Wdcv_fn Wdinv_if Wdinv2_some ifV_agg ifV_int Wnil_some Wpan_if Wcond_t Wcond_f Wd_nil Wd_g Wd_call Wd_op Wdg_11 Wdg_00 Wdg_10 Wdg_01 Wdg_skip Evd_some step_some step_none val_t val_c get_mk obf_mk rdl_nil rdl_cons aget_cons aget_nil
attribute [local go_sem] pl_mv pl_pick pl_box pl_build pl_bsl pl_ld pl_st pl_nilc pl_bin pl_eqb pl_eq pl_eqn pl_un pl_cvi pl_cvs pl_s2b pl_b2s pl_mki pl_mkf pl_mks pl_sl pl_sls pl_fa pl_fld pl_ia pl_iaA pl_ix pl_ixs pl_ta pl_ex pl_len pl_lens pl_mn pl_mx pl_app pl_apps ev aset adel upd Option.getD_some passAll passV List.append_nil reduceIte Nat.reduceEqDiff decide_eq_true_eq Bool.false_eq_true Bool.true_eq_false reduceCtorEq Nat.reduceAdd updf V.sliceOf placeD placeV V.toDs V.toD1 V.cells List.map_cons List.map_nil Nat.mul_one Nat.zero_mul List.length_nil List.length_cons Nat.zero_add List.nil_append true_and and_true and_self Nat.zero_lt_one if_true if_false Nat.reduceLT Nat.reduceLeDiff Nat.reduceMul splice List.take_zero List.drop_zero List.drop_nil Bool.not_true Bool.not_false bne_self_eq_false Bool.bne_true Bool.bne_false Bool.false_bne Bool.true_bne List.cons_append eq_self Option.map_some Option.map_none boundO bound b_and b_or b_add b_sub b_mul b_rem b_eql b_neq b_lss b_leq b_gtr b_geq b_seql b_sneq b_shr8 b_shl8 decide_true decide_false IOp.xs List.flatMap_cons List.flatMap_nil V.ids V.ids1 V.ids0
attribute [local go_sem] Vk.RetB resVs resV outOf Vk.init recvs recvV recv enumFrom
attribute [local go_sem] bs_length NDs_length VLDs_length bs_nil bs_cons bytesOf_bs
attribute [local go_sem] le_1 le_2 le_3 le_4 le_5 le_6 le_7 le_8 le_9 le_10 le_11 le_12 le_o0 ck_bool ck_int ck_str ck_slice ck_ni ck_if ck_nils ck_own nat_nn Int.cast_ofNat_Int datas V.data? eqCells eqD Bool.true_and Bool.false_and List.all_cons List.all_nil Bool.and_true Bool.and_self List.take_succ_cons List.drop_succ_cons List.getElem?_cons_zero List.getElem?_cons_succ Int.toNat_natCast Nat.add_zero Nat.sub_zero
attribute [local go_sem] Int.reduceBEq Int.reduceBNe Int.reduceLT Int.reduceLE Int.reduceGT Int.reduceGE Int.reduceEq Int.reduceNe Int.reduceAdd Int.reduceSub Int.reduceMul Int.reduceToNat beq_self_eq_true bne_self_eq_false Nat.reduceBEq Nat.reduceSub ge_iff_le gt_iff_lt
theorem valsF_mod (w : Int) : 0 ≤ w % 3 ∧ w % 3 < 3 := ⟨Int.emod_nonneg _ (by omega), Int.emod_lt_of_pos _ (by omega)⟩
theorem tc13Prompt (f m : Int) (L : List IP) (hL : L.length < 9223372036854775808) (hok : ∀ x ∈ L, -9223372036854775808 ≤ x.s ∧ x.s < 9223372036854775808) : TC Try.prog 5 [iv f, iv m, ips L] (tv true) := by
  refine tcW Try.func5 k5 h5 (by simp [c5]) (by simp) [] ?_
  obtain ⟨_, g0⟩ := madeP_ok f m
  simp only [go_sem, c5, ips]
  refine Wcall_some tcKnown13 ?_
  simp only [go_sem]
  refine Wcall_some (tcMade f m) ?_
  simp only [go_sem, pa, pcells, vls]
  refine W_loop 120 [.keep 2, .keep 7, .keep 8, .keep 9] (fun k st => ∃ q r p last, L = q ++ r ∧ GP 7 9 q.length p ∧ ((last = -1 ∧ p.on = false) ∨ (p.on = true ∧ (0 ≤ last ∧ last < 3) ∧ p.vs = valsF last)) ∧ q.length ≤ 200 ∧ k = r.length ∧ st = ⟨[(2, ips L), (7, .ptr 112 0), (8, iv last), (9, iv q.length)], [(112, .box (pcells p))], 2168⟩) (by omega) L.length _ (by simp [norm, normGo, boxesBelow, ownIds, adelAll, V.under, St.get, St.obf, aget, adel, ips, pcells, vls]) ⟨[], L, madeP f m, -1, rfl, g0, .inl ⟨rfl, rfl⟩, by simp, rfl, rfl⟩ ?_
  rintro k st ⟨q, r, p, last, hq, hG, hlast, h200', rfl, rfl⟩
  cases r with
  | nil =>
    have hn : ¬ ((q.length : Int) < (L.length : Int)) := by subst hq; simp
    simp only [go_sem, hn, ips]
  | cons x r =>
    obtain ⟨c2, c3, hdrop, hpl⟩ := at_ip hq
    have w5 : w64 ((q.length : Int) + 1) = q.length + 1 := w64_of (by omega)
    by_cases h200 : (q.length : Int) < 200
    rotate_left
    · simp only [go_sem, c2, h200, ips]
    have hxs := hok x (by rw [hq]; simp)
    have hb := band32 x.s hxs
    obtain ⟨kk, hkk⟩ : ∃ kk, kk = x.w % 3 := ⟨_, rfl⟩
    have hk3 := valsF_mod x.w
    rw [← hkk] at hk3
    obtain ⟨v1, v2⟩ := valsF_ok kk
    obtain ⟨bs, hbs⟩ : ∃ bs, bs = band x.s 4294967295 := ⟨_, rfl⟩
    rw [← hbs] at hb
    have hT := ckT_of hb
    have okp := hG.ok (by omega)
    have hstep := hG.step (by omega) (by omega) (by omega) (a := bs) (b := 0) (c := 0) v1 v2 hT
    simp only [go_sem, c2, c3, h200, hdrop, ips, IPDs_length]
    refine Wcall_at (tcWithin13 x.w 3 (by omega)) (by rfl) ?_
    rw [← hkk]
    simp only [go_sem, c2, c3, hdrop, IPDs_length, pcells, vls]
    refine Wdcall_at (tcValues kk) (by rfl) ?_
    simp only [go_sem, c2, c3, hdrop, IPDs_length, vls]
    refine Wdcall_at (tcStamp x.w x.s) (by rfl) ?_
    rw [← hbs]
    simp only [go_sem]
    refine Wdcall_at (tcStep p (valsF kk) bs 0 0 okp (by omega)) (by rfl) ?_
    rcases hstep with ⟨hc, he, hG', hm⟩ | ⟨hon, hvs, hg, he, hG', hm⟩ | ⟨hon, hvs, hg, he, hG'⟩
    · have hne : kk ≠ last := by
        intro e
        rcases hlast with ⟨h1, _⟩ | ⟨h1, h2, h3⟩
        · omega
        · rcases hc with h | h
          · rw [h1] at h; cases h
          · rw [e] at h; exact h h3.symm
      obtain ⟨p', hp'⟩ : ∃ p', p' = changeP p (valsF kk) bs 0 0 := ⟨_, rfl⟩
      rw [← hp'] at he hG' hm
      have hst : p'.st = p.st + 1 := by
        rw [hp']
        simp only [changeP]
        cases hk : p.on
        · have := (hG.off hk).1; simp [this]
        · obtain ⟨_, _, c, _⟩ := hG.on hk
          simp only [if_true, afterF, mostN, show ¬ p.st = 4294967295 from by omega, if_false]
      have hst0 : 0 ≤ p.st ∧ p.st ≤ 1000 := by
        cases hk : p.on
        · have := (hG.off hk).1; omega
        · obtain ⟨_, _, c, _⟩ := hG.on hk; omega
      have hsq : p'.sq = 0 := by rw [hp']; rfl
      have hta : p'.ta = bs ∧ p'.tb = 0 ∧ p'.tc = 0 := by rw [hp']; exact ⟨rfl, rfl, rfl⟩
      have hvv : p'.vs = valsF kk := by rw [hp']; rfl
      have e1 : (kk != last) = true := by simpa using hne
      have w6 : w64 (p.st + 1) = p.st + 1 := w64_of (by omega)
      have ok' := hG'.ok (by omega)
      have hlen : p'.vs.length ≤ 1000 := ok'.1
      have hpub := hG'.pub
      have hrev := hG'.rev
      simp only [go_sem, he, pa, pcells, vls, msV, mD, e1]
      refine ⟨by rfl, ?_⟩
      simp only [go_sem, c2, c3, hdrop, IPDs_length, sentM, hsq, hst, hta.1, hta.2.1, hta.2.2, w6]
      refine Wdcall_at (tcStamp x.w x.s) (by rfl) ?_
      rw [← hbs]
      simp only [go_sem]
      refine ⟨by rfl, ?_⟩
      refine Wdcall_at (tcMCheck (sentM p') (by rw [show (sentM p').vs = p'.vs from rfl]; omega)) (by simp [ma, mcells, sentM, hst, hsq, hta, vls]) ?_
      simp only [go_sem, hm]
      refine Wdcall_at (tcValues kk) (by rfl) ?_
      simp only [go_sem, vls]
      refine Wdcall_at (tcSameV p'.vs (valsF kk) (by omega) (by omega)) (by rfl) ?_
      have e7 : (p'.pub != 7) = false := by rw [hpub]; rfl
      have e9 : (p'.rev != 9) = false := by rw [hrev]; rfl
      simp only [go_sem, hvv, e7, e9, w5, Kloop_norm]
      exact ⟨by rfl, r.length, _, by simp, (by simp [norm, normGo, boxesBelow, ownIds, adelAll, V.under, St.get, St.obf, aget, adel, pcells, vls]; rfl), q ++ [x], r, p', kk, by simp [hq], by simpa using hG', .inr ⟨by rw [hp']; rfl, hk3, hvv⟩, by simp; omega, rfl, by simp [ips, pcells, vls, hst, hsq, hta, hvv]⟩
    · have hkl : kk = last := by
        rcases hlast with ⟨_, h1⟩ | ⟨h1, h2, h3⟩
        · rw [hon] at h1; cases h1
        · exact valsF_inj hk3 h2 (hvs.trans h3)
      obtain ⟨p', hp'⟩ : ∃ p', p' = repeatP p := ⟨_, rfl⟩
      rw [← hp'] at he hG' hm
      have hvv : p'.vs = valsF kk := by rw [hp', hvs]; rfl
      have e1 : (kk != last) = false := by simpa using hkl
      have ok' := hG'.ok (by omega)
      have hlen : p'.vs.length ≤ 1000 := ok'.1
      have hpub := hG'.pub
      have hrev := hG'.rev
      simp only [go_sem, he, pa, pcells, vls, msV, mD, e1]
      refine ⟨by rfl, ⟨by rfl, ?_⟩⟩
      refine Wdcall_at (tcMCheck (sentM p') (by rw [show (sentM p').vs = p'.vs from rfl]; omega)) (by rfl) ?_
      simp only [go_sem, hm]
      refine Wdcall_at (tcValues kk) (by rfl) ?_
      simp only [go_sem, vls]
      refine Wdcall_at (tcSameV p'.vs (valsF kk) (by omega) (by omega)) (by rfl) ?_
      have e7 : ((sentM p').pub != 7) = false := by show (p'.pub != 7) = false; rw [hpub]; rfl
      have e9 : ((sentM p').rev != 9) = false := by show (p'.rev != 9) = false; rw [hrev]; rfl
      have e8 : decide (p'.vs = valsF kk) = true := by simp [hvv]
      simp only [go_sem, e8, e7, e9, w5, Kloop_norm]
      exact ⟨by rfl, r.length, _, by simp, (by simp [norm, normGo, boxesBelow, ownIds, adelAll, V.under, St.get, St.obf, aget, adel, pcells, vls]; rfl), q ++ [x], r, p', kk, by simp [hq], by simpa using hG', .inr ⟨by rw [hp']; exact hon, hk3, hvv⟩, by simp; omega, rfl, by simp [ips, pcells, vls, hvv]⟩
    · have hkl : kk = last := by
        rcases hlast with ⟨_, h1⟩ | ⟨h1, h2, h3⟩
        · rw [hon] at h1; cases h1
        · exact valsF_inj hk3 h2 (hvs.trans h3)
      have e1 : (kk != last) = false := by simpa using hkl
      simp only [go_sem, he, pa, pcells, vls, msV, e1, w5, Kloop_norm]
      refine ⟨by rfl, ⟨by rfl, ⟨by rfl, ?_⟩⟩⟩
      exact ⟨r.length, _, by simp, (by simp [norm, normGo, boxesBelow, ownIds, adelAll, V.under, St.get, St.obf, aget, adel, pcells, vls]; rfl), q ++ [x], r, { p with since := p.since + 1 }, kk, by simp [hq], by simpa using hG'.mono (by omega), .inr ⟨hon, hk3, hvs.symm⟩, by simp; omega, rfl, by simp [ips, pcells, vls]⟩
end Go.Proofs.Ytokbcminleemaaa.Vc
