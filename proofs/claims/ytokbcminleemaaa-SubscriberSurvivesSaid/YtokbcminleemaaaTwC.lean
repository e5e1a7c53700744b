/- Laws of subscribers: survives. -/
import Derived.Test.YtokbcminleemaaaTwA
set_option linter.unusedSimpArgs false
set_option linter.unusedVariables false
set_option linter.unusedSectionVars false
namespace Go.Proofs.Ytokbcminleemaaa.Vc
open Go Go.Vk Go.Tv Go.Proofs
set_option maxRecDepth 100000
set_option maxHeartbeats 4000000
attribute [local go_sem ↓] W_skip W_reg W_draw W_seq W_cond W_block W_exit W_label W_goto W_ret Kseq_norm Kseq_ret Kseq_ex Kseq_go Kseq_pan Kblk_norm Kblk_ret Kblk_self Kblk_ne Kblk_go Kblk_pan Kloop_ret Kloop_ex Kloop_go Kloop_pan KseqS_norm KseqS_ret KseqS_ex KseqS_pan Kend_norm Kend_ret Kend_ex KscS_norm KscS_ret KscS_ex KscS_go Wr_nil Wr_g Wg_11 Wg_00 Wg_10 Wg_01 Wg_skip Wr_call Wr_callv Wr_inv Winv_if Winv2_some Wr_panic Wr_isnil Wr_op Ev_some Wcv_fn Wd_callv Wd_inv Wdcv_fn Wdinv_if Wdinv2_some ifV_agg ifV_int Wnil_some Wpan_if Wcond_t Wcond_f Wd_nil Wd_g Wd_call Wd_op Wdg_11 Wdg_00 Wdg_10 Wdg_01 Wdg_skip Evd_some step_some step_none val_t val_c get_mk obf_mk rdl_nil rdl_cons aget_cons aget_nil
attribute [local go_sem] pl_mv pl_pick pl_box pl_build pl_bsl pl_ld pl_st pl_nilc pl_bin pl_eqb pl_eq pl_eqn pl_un pl_cvi pl_cvs pl_s2b pl_b2s pl_mki pl_mkf pl_mks pl_sl pl_sls pl_fa pl_fld pl_ia pl_iaA pl_ix pl_ixs pl_ta pl_ex pl_len pl_lens pl_mn pl_mx pl_app pl_apps ev aset adel upd Option.getD_some passAll passV List.append_nil reduceIte Nat.reduceEqDiff decide_eq_true_eq Bool.false_eq_true Bool.true_eq_false reduceCtorEq Nat.reduceAdd updf V.sliceOf placeD placeV V.toDs V.toD1 V.cells List.map_cons List.map_nil Nat.mul_one Nat.zero_mul List.length_nil List.length_cons Nat.zero_add List.nil_append true_and and_true and_self Nat.zero_lt_one if_true if_false Nat.reduceLT Nat.reduceLeDiff Nat.reduceMul splice List.take_zero List.drop_zero List.drop_nil Bool.not_true Bool.not_false bne_self_eq_false Bool.bne_true Bool.bne_false Bool.false_bne Bool.true_bne List.cons_append eq_self Option.map_some Option.map_none boundO bound b_and b_or b_add b_sub b_mul b_rem b_eql b_neq b_lss b_leq b_gtr b_geq b_seql b_sneq b_shr8 b_shl8 decide_true decide_false IOp.xs List.flatMap_cons List.flatMap_nil V.ids V.ids1 V.ids0
attribute [local go_sem] Vk.RetB resVs resV outOf Vk.init recvs recvV recv enumFrom
attribute [local go_sem] bs_length NDs_length VLDs_length bs_nil bs_cons bytesOf_bs
attribute [local go_sem] le_1 le_2 le_3 le_4 le_5 le_6 le_7 le_8 le_9 le_10 le_11 le_12 le_o0 ck_bool ck_int ck_str ck_slice ck_ni ck_if ck_nils ck_own nat_nn Int.cast_ofNat_Int datas V.data? eqCells eqD Bool.true_and Bool.false_and List.all_cons List.all_nil Bool.and_true Bool.and_self List.take_succ_cons List.drop_succ_cons List.getElem?_cons_zero List.getElem?_cons_succ Int.toNat_natCast Nat.add_zero Nat.sub_zero
attribute [local go_sem] Int.reduceBEq Int.reduceBNe Int.reduceLT Int.reduceLE Int.reduceGT Int.reduceGE Int.reduceEq Int.reduceNe Int.reduceAdd Int.reduceSub Int.reduceMul Int.reduceToNat beq_self_eq_true bne_self_eq_false Nat.reduceBEq Nat.reduceSub ge_iff_le gt_iff_lt
/-- Before the loss, behind it, and behind the next message. -/
def Sv (lose n : Int) (p : PS) (s : SS) : Prop :=
  (n ≤ lose ∧ SyL 0 p s) ∨ (n = lose + 1 ∧ p.on = true ∧ 1 ≤ p.sq ∧ ∃ G, 1 ≤ G ∧ p.gap ≤ 2 * G ∧ G ≤ 1000 ∧ s = ⟨3, 4, true, p.st, p.sq - 1, 2 * G + 1 - p.since, 0, false, p.vs⟩) ∨ (lose + 2 ≤ n ∧ p.on = true ∧ SyL 1 p s)
def Sn (k n : Int) (p : PS) : Prop := (k = 0 ∧ n = 0 ∧ p.on = false) ∨ (p.on = true ∧ p.vs = valsF 1 ∧ n = p.sq + 1 ∧ k ≤ 79 * (n - 1) + p.since + 1)
theorem Sv.ok {n lose m : Int} {p : PS} {s : SS} (hG : GP 3 4 m p) (h : Sv lose n p s) : okS s := by
  rcases h with ⟨_, h⟩ | ⟨_, h1, _, G, hG1, hG2, hG3, rfl⟩ | ⟨_, _, h⟩
  · exact SyL.ok hG h (by omega)
  · obtain ⟨a, b, c, d⟩ := hG.on h1
    have f3 := hG.len
    exact ⟨by simp only []; omega, by simp only []; omega, by simp only []; omega⟩
  · exact SyL.ok hG h (by omega)
theorem Sv.valid {n lose m : Int} {p : PS} {s : SS} (hG : GP 3 4 m p) (h : Sv lose n p s) (hon : p.on = true) : validF s = true ∧ s.vs = p.vs := by
  rcases h with ⟨_, h⟩ | ⟨_, h1, _, G, hG1, hG2, hG3, rfl⟩ | ⟨_, _, h⟩
  · obtain ⟨a, _, c⟩ := h.valid hG hon; exact ⟨a, c⟩
  · obtain ⟨a, b, c, d⟩ := hG.on h1
    refine ⟨?_, rfl⟩
    simp [validF]
    omega
  · obtain ⟨a, _, c⟩ := h.valid hG hon; exact ⟨a, c⟩
/-- One step. -/
theorem Sv.next {k : Int} {n lose : Int} {p : PS} {s : SS} (hk : 0 ≤ k ∧ k < 900) (hl : 1 ≤ lose ∧ lose ≤ 6) (hn : 0 ≤ n ∧ n < lose + 3) (hG : GP 3 4 k p) (hmax : p.max ≤ 79) (h : Sv lose n p s) (hS : Sn k n p) :
    (∃ p', stepF p (valsF 1) 0 0 0 = (p', some (sentM p')) ∧ GP 3 4 (k + 1) p' ∧ p'.max = p.max ∧ p'.on = true ∧ p'.vs = valsF 1 ∧ Sn (k + 1) (n + 1) p' ∧ Sv lose (n + 1) p' (if n = lose then tickF s else (takeF (tickF s) (sentM p')).1)) ∨
    (∃ p', stepF p (valsF 1) 0 0 0 = (p', none) ∧ GP 3 4 (k + 1) p' ∧ p'.max = p.max ∧ p'.on = true ∧ p'.vs = valsF 1 ∧ Sn (k + 1) n p' ∧ Sv lose n p' (tickF s)) := by
  have f1 := hG.first
  have f2 := hG.max
  have hsend : ∀ l, 0 ≤ l ∧ l ≤ 1000 → SyL l p s → SyL l (sendF p s 1 false).1 (sendF p s 1 false).2 := fun l hl' h => (h.next hG (by omega) hl' 1).1
  rcases step_send hG (by omega) 1 with ⟨p', hc, hp', he, hG', hm, hon, hvs, hst, hsq, hsi, hga⟩ | ⟨p', hon0, hv0, hg, hp', he, hG', hm, hon, hvs, hst, hsq, hsi, hga⟩ | ⟨p', hon0, hv0, hg, hp', he, hG', hon, hvs, hst, hsq, hsi, hga⟩
  · -- the first message
    have hmx : p'.max = p.max := by rw [hp']; rfl
    rcases hS with ⟨k0, n0, off⟩ | ⟨on1, vs1, _⟩
    · refine .inl ⟨p', he, hG', hmx, hon, hvs, .inr ⟨hon, hvs, by omega, by omega⟩, ?_⟩
      rw [if_neg (by omega)]
      rcases h with ⟨_, h⟩ | ⟨h0, _⟩ | ⟨h0, _⟩
      · have := hsend 0 (by omega) h
        unfold sendF at this
        rw [he] at this
        exact .inl ⟨by omega, this⟩
      · omega
      · omega
    · rcases hc with h | h
      · rw [on1] at h; cases h
      · exact absurd vs1.symm h
  · have hmx : p'.max = p.max := by rw [hp']; rfl
    rcases hS with ⟨k0, n0, off⟩ | ⟨on1, vs1, hnq, hkb⟩
    · rw [off] at hon0; cases hon0
    obtain ⟨a, b, c, d⟩ := hG.on hon0
    have hS' : Sn (k + 1) (n + 1) p' := .inr ⟨hon, hvs, by omega, by omega⟩
    refine .inl ⟨p', he, hG', hmx, hon, hvs, hS', ?_⟩
    have hpub : (sentM p').pub = 3 := hG'.pub
    have hrev : (sentM p').rev = 4 := hG'.rev
    by_cases hnl : n = lose
    · rw [if_pos hnl]
      rcases h with ⟨_, h⟩ | ⟨h0, _⟩ | ⟨h0, _⟩
      · rcases h with ⟨h1, _⟩ | ⟨h1, rfl⟩
        · rw [h1] at hon0; cases hon0
        · refine .inr (.inl ⟨by omega, hon, by omega, p.gap, by omega, by omega, by omega, ?_⟩)
          unfold tickF
          rw [if_pos (by simp only []; omega)]
          simp only [hst, hsq, hsi, hvs, hv0]
          simp
          omega
      · omega
      · omega
    · rw [if_neg hnl]
      rcases h with ⟨_, h⟩ | ⟨h0, h1, hq1, G, hG1, hG2, hG3, rfl⟩ | ⟨h0, _, h⟩
      · have := hsend 0 (by omega) h
        unfold sendF at this
        rw [he] at this
        exact .inl ⟨by omega, this⟩
      · refine .inr (.inr ⟨by omega, hon, .inr ⟨hon, ?_⟩⟩)
        have ht : tickF ⟨3, 4, true, p.st, p.sq - 1, 2 * G + 1 - p.since, 0, false, p.vs⟩ = ⟨3, 4, true, p.st, p.sq - 1, 2 * G + 1 - p.since - 1, 0, false, p.vs⟩ := by
          unfold tickF; rw [if_pos (by simp only []; omega)]
        rw [ht, take_repeat (s := ⟨3, 4, true, p.st, p.sq - 1, 2 * G + 1 - p.since - 1, 0, false, p.vs⟩) (m := sentM p') hm hpub hrev rfl (by simp only []; omega) hst (by show 0 ≤ p.sq - 1 ∧ p.sq - 1 < p'.sq; omega) (by show p'.sq ≤ 1000000; omega) rfl (by show p'.vs = p.vs; rw [hvs, hv0])]
        simp only [accF, sentM, hst, hsq, hsi, hga]
        simp
        omega
      · have := hsend 1 (by omega) h
        unfold sendF at this
        rw [he] at this
        exact .inr (.inr ⟨by omega, hon, this⟩)
  · have hmx : p'.max = p.max := by rw [hp']
    rcases hS with ⟨k0, n0, off⟩ | ⟨on1, vs1, hnq, hkb⟩
    · rw [off] at hon0; cases hon0
    obtain ⟨a, b, c, d⟩ := hG.on hon0
    refine .inr ⟨p', he, hG', hmx, hon, hvs, .inr ⟨hon, hvs, by omega, by omega⟩, ?_⟩
    rcases h with ⟨h0, h⟩ | ⟨h0, h1, hq1, G, hG1, hG2, hG3, rfl⟩ | ⟨h0, _, h⟩
    · have := hsend 0 (by omega) h
      unfold sendF at this
      rw [he] at this
      exact .inl ⟨h0, this⟩
    · refine .inr (.inl ⟨h0, hon, by omega, G, hG1, by omega, hG3, ?_⟩)
      unfold tickF
      rw [if_pos (by simp only []; omega)]
      simp only [hst, hsq, hsi, hvs, hv0]
      simp
      omega
    · have := hsend 1 (by omega) h
      unfold sendF at this
      rw [he] at this
      exact .inr (.inr ⟨h0, hon, this⟩)
theorem tc14Survives (f m l : Int) : TC Try.prog 12 [iv f, iv m, iv l] (tv true) := by
  refine tcW Try.func12 k12 h12 (by simp [c12]) (by simp) [] ?_
  have w1 : w64 (1 + f % 20) = 1 + f % 20 := w64_of (by omega)
  have w2 : w64 (1 + f % 20 + m % 60) = 1 + f % 20 + m % 60 := w64_of (by omega)
  have w3 : w64 (1 + l % 6) = 1 + l % 6 := w64_of (by omega)
  obtain ⟨e0, g0⟩ := GP.new (P := 3) (R := 4) (f := 1 + f % 20) (m := 1 + f % 20 + m % 60) (by omega) (by omega) (by omega) (by omega)
  simp only [go_sem, c12]
  refine Wcall_some tcKnown14 ?_
  simp only [go_sem]
  refine Wcall_at (tcWithin14 f 20 (by omega)) (by rfl) ?_
  simp only [go_sem, w1]
  refine Wcall_at (tcWithin14 m 60 (by omega)) (by rfl) ?_
  simp only [go_sem, w2]
  refine Wcall_at (tcNewP 3 (1 + f % 20) (1 + f % 20 + m % 60) 4) (by rfl) ?_
  simp only [go_sem, e0, pa, pcells, vls]
  refine Wcall_at (tcNewS 3 4) (by rfl) ?_
  simp only [go_sem, sa, scells, vls]
  refine Wcall_at (tcWithin14 l 6 (by omega)) (by rfl) ?_
  simp only [go_sem, w3]
  obtain ⟨lo, hlo⟩ : ∃ lo, lo = 1 + l % 6 := ⟨_, rfl⟩
  have hl : 1 ≤ lo ∧ lo ≤ 6 := by omega
  rw [← hlo]
  refine W_loop 232 [.keep 2, .keep 7, .keep 8, .keep 9, .keep 10, .keep 11] (fun j st => ∃ (k : Nat) (n : Int) (p : PS) (s : SS), k ≤ 900 ∧ (0 ≤ n ∧ n ≤ lo + 3) ∧ GP 3 4 k p ∧ p.max ≤ 79 ∧ Sv lo n p s ∧ Sn k n p ∧ j = 900 - k ∧ st = ⟨[(2, iv lo), (7, .ptr 192 0), (8, iv 0), (9, .ptr 224 0), (10, iv n), (11, iv k)], [(192, .box (pcells p)), (224, .box (scells s))], 2280⟩) (by omega) 900 _ (by simp [norm, normGo, boxesBelow, ownIds, adelAll, V.under, St.get, St.obf, aget, adel, pcells, scells, vls]) ⟨0, 0, _, newS 3 4, by omega, by omega, g0, by simp only []; omega, .inl ⟨by omega, .inl ⟨rfl, rfl, rfl⟩⟩, .inl ⟨rfl, rfl, rfl⟩, rfl, rfl⟩ ?_
  rintro j st ⟨k, n, p, s, hk, hn, hG, hmax, hV, hS, rfl, rfl⟩
  have w4 : w64 (lo + 3) = lo + 3 := w64_of (by omega)
  have okp := hG.ok (by omega)
  have oks := hV.ok hG
  -- how it ends
  have hkn : n < lo + 3 → (k : Int) < 900 := fun h => by
    rcases hS with ⟨h1, _, _⟩ | ⟨h1, _, h2, h3⟩
    · omega
    · obtain ⟨a, b, c, d⟩ := hG.on h1
      omega
  by_cases hnl : n < lo + 3
  rotate_left
  · obtain rfl : n = lo + 3 := by omega
    have hlost : s.lost = 1 := by
      rcases hV with ⟨h, _⟩ | ⟨h, _⟩ | ⟨_, h1, h⟩
      · omega
      · omega
      · exact (h.valid hG h1).2.1
    by_cases hk9 : (k : Int) < 900
    · simp only [go_sem, hk9, w4, hnl, pcells, scells, hlost, vls]
    · simp only [go_sem, hk9, w4, pcells, scells, hlost, vls]
  have hk9 := hkn hnl
  have w5 : w64 ((k : Int) + 1) = k + 1 := w64_of (by omega)
  have w6 : w64 (n + 1) = n + 1 := w64_of (by omega)
  have w7 : w64 n = n := w64_of (by omega)
  have ot := okS_tick oks
  obtain ⟨t1, t2, t3⟩ := ot
  obtain ⟨s1, s2, s3⟩ := oks
  simp only [go_sem, hk9, w4, hnl, pcells, scells, vls]
  refine Wdcall_at (tcValues 1) (by rfl) ?_
  simp only [go_sem, vls]
  refine Wdcall_at (tcStep p (valsF 1) 0 0 0 okp (by decide)) (by rfl) ?_
  rcases Sv.next (by omega) hl ⟨hn.1, hnl⟩ hG hmax hV hS with ⟨p', he, hG', hmx, hon, hvs, hS', hV'⟩ | ⟨p', he, hG', hmx, hon, hvs, hS', hV'⟩
  · have ok' := hV'.ok hG'
    obtain ⟨u1, u2⟩ := hV'.valid hG' hon
    have hml : (sentM p').vs.length ≤ 1000 := by show p'.vs.length ≤ 1000; rw [hvs]; decide
    simp only [go_sem, he, pa, pcells, vls, msV, mD]
    refine ⟨by rfl, ?_⟩
    refine Wcall_at (tcTick s (by omega) s3) (by rfl) ?_
    simp only [go_sem, sa, scells, vls]
    by_cases hnl2 : n = lo
    · rw [if_pos hnl2] at hV' ok' u1 u2
      have e1 : (n != lo) = false := by simpa using hnl2
      simp only [go_sem, e1, w6]
      refine Wdcall_at (tcValid (tickF s)) (by rfl) ?_
      simp only [go_sem, u1]
      refine Wdcall_at (tcValues 1) (by rfl) ?_
      simp only [go_sem, vls]
      refine Wdcall_at (tcSameV (tickF s).vs (valsF 1) (by omega) (by decide)) (by rfl) ?_
      have e8 : decide ((tickF s).vs = valsF 1) = true := by simp [u2, hvs]
      simp only [go_sem, e8, w5, Kloop_norm]
      exact ⟨by rfl, 900 - (k + 1), _, by omega, (by simp [norm, normGo, boxesBelow, ownIds, adelAll, V.under, St.get, St.obf, aget, adel, pcells, scells, vls]; rfl), k + 1, n + 1, p', tickF s, by omega, by omega, by simpa using hG', by omega, hV', by simpa using hS', rfl, by simp [pcells, scells, vls]⟩
    · rw [if_neg hnl2] at hV' ok' u1 u2
      obtain ⟨y1, y2, y3⟩ := ok'
      have e1 : (n != lo) = true := by simpa using hnl2
      simp only [go_sem, e1]
      refine Wdcall_at (tcTake (tickF s) (sentM p') (by omega) (by omega) t2) (by rfl) ?_
      simp only [go_sem, sa, scells, vls]
      refine ⟨by rfl, ?_⟩
      simp only [go_sem, w6]
      refine Wdcall_at (tcValid (takeF (tickF s) (sentM p')).1) (by rfl) ?_
      simp only [go_sem, u1]
      refine Wdcall_at (tcValues 1) (by rfl) ?_
      simp only [go_sem, vls]
      refine Wdcall_at (tcSameV (takeF (tickF s) (sentM p')).1.vs (valsF 1) (by omega) (by decide)) (by rfl) ?_
      have e8 : decide ((takeF (tickF s) (sentM p')).1.vs = valsF 1) = true := by simp [u2, hvs]
      simp only [go_sem, e8, w5, Kloop_norm]
      exact ⟨by rfl, 900 - (k + 1), _, by omega, (by simp [norm, normGo, boxesBelow, ownIds, adelAll, V.under, St.get, St.obf, aget, adel, pcells, scells, vls]; rfl), k + 1, n + 1, p', (takeF (tickF s) (sentM p')).1, by omega, by omega, by simpa using hG', by omega, hV', by simpa using hS', rfl, by simp [pcells, scells, vls]⟩
  · obtain ⟨u1, u2⟩ := hV'.valid hG' hon
    simp only [go_sem, he, pa, pcells, vls, msV]
    refine ⟨by rfl, ?_⟩
    refine Wcall_at (tcTick s (by omega) s3) (by rfl) ?_
    simp only [go_sem, sa, scells, vls, w7, Int.add_zero]
    refine Wdcall_at (tcValid (tickF s)) (by rfl) ?_
    simp only [go_sem, u1]
    refine Wdcall_at (tcValues 1) (by rfl) ?_
    simp only [go_sem, vls]
    refine Wdcall_at (tcSameV (tickF s).vs (valsF 1) (by omega) (by decide)) (by rfl) ?_
    have e8 : decide ((tickF s).vs = valsF 1) = true := by simp [u2, hvs]
    simp only [go_sem, e8, w5, Kloop_norm]
    exact ⟨by rfl, 900 - (k + 1), _, by omega, (by simp [norm, normGo, boxesBelow, ownIds, adelAll, V.under, St.get, St.obf, aget, adel, pcells, scells, vls]; rfl), k + 1, n, p', tickF s, by omega, by omega, by simpa using hG', by omega, hV', by simpa using hS', rfl, by simp [pcells, scells, vls]⟩
end Go.Proofs.Ytokbcminleemaaa.Vc
