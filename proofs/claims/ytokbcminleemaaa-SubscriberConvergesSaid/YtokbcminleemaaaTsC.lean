/- Contracts of functions: the specification's subscriber. -/
import Derived.Test.YtokbcminleemaaaTsB
set_option linter.unusedSimpArgs false
set_option linter.unusedVariables false
set_option linter.unusedSectionVars false
namespace Go.Proofs.Ytokbcminleemaaa.Vc
open Go Go.Vk Go.Tv Go.Proofs
set_option maxRecDepth 100000
set_option maxHeartbeats 4000000
attribute [local go_sem ↓] W_skip W_reg W_draw W_seq W_cond W_block W_exit W_label W_goto W_ret Kseq_norm Kseq_ret Kseq_ex Kseq_go Kseq_pan Kblk_norm Kblk_ret Kblk_self Kblk_ne Kblk_go Kblk_pan Kloop_ret Kloop_ex Kloop_go Kloop_pan KseqS_norm KseqS_ret KseqS_ex KseqS_pan Kend_norm Kend_ret Kend_ex KscS_norm KscS_ret KscS_ex KscS_go Wr_nil Wr_g Wg_11 Wg_00 Wg_10 Wg_01 Wg_skip Wr_call Wr_callv Wr_inv Winv_if Winv2_some Wr_panic Wr_isnil Wr_op Ev_some Wcv_fn Wd_callv Wd_inv Wdcv_fn Wdinv_if Wdinv2_some ifV_agg ifV_int Wnil_some Wpan_if Wcond_t Wcond_f Wd_nil Wd_g Wd_call Wd_op Wdg_11 Wdg_00 Wdg_10 Wdg_01 Wdg_skip Evd_some step_some step_none val_t val_c get_mk obf_mk rdl_nil rdl_cons aget_cons aget_nil
attribute [local go_sem] pl_mv pl_pick pl_box pl_build pl_bsl pl_ld pl_st pl_nilc pl_bin pl_eqb pl_eq pl_eqn pl_un pl_cvi pl_cvs pl_s2b pl_b2s pl_mki pl_mkf pl_mks pl_sl pl_sls pl_fa pl_fld pl_ia pl_iaA pl_ix pl_ixs pl_ta pl_ex pl_len pl_lens pl_mn pl_mx pl_app pl_apps ev aset adel upd Option.getD_some passAll passV List.append_nil reduceIte Nat.reduceEqDiff decide_eq_true_eq Bool.false_eq_true Bool.true_eq_false reduceCtorEq Nat.reduceAdd updf V.sliceOf placeD placeV V.toDs V.toD1 V.cells List.map_cons List.map_nil Nat.mul_one Nat.zero_mul List.length_nil List.length_cons Nat.zero_add List.nil_append true_and and_true and_self Nat.zero_lt_one if_true if_false Nat.reduceLT Nat.reduceLeDiff Nat.reduceMul splice List.take_zero List.drop_zero List.drop_nil Bool.not_true Bool.not_false bne_self_eq_false Bool.bne_true Bool.bne_false Bool.false_bne Bool.true_bne List.cons_append eq_self Option.map_some Option.map_none boundO bound b_and b_or b_add b_sub b_mul b_rem b_eql b_neq b_lss b_leq b_gtr b_geq b_seql b_sneq b_shr8 b_shl8 decide_true decide_false IOp.xs List.flatMap_cons List.flatMap_nil V.ids V.ids1 V.ids0
attribute [local go_sem] Vk.RetB resVs resV outOf Vk.init recvs recvV recv enumFrom
attribute [local go_sem] bs_length NDs_length VLDs_length bs_nil bs_cons bytesOf_bs
attribute [local go_sem] le_1 le_2 le_3 le_4 le_5 le_6 le_7 le_8 le_9 le_10 le_11 le_12 le_o0 ck_bool ck_int ck_str ck_slice ck_ni ck_if ck_nils ck_own nat_nn Int.cast_ofNat_Int datas V.data? eqCells eqD Bool.true_and Bool.false_and List.all_cons List.all_nil Bool.and_true Bool.and_self List.take_succ_cons List.drop_succ_cons List.getElem?_cons_zero List.getElem?_cons_succ Int.toNat_natCast Nat.add_zero Nat.sub_zero
attribute [local go_sem] Int.reduceBEq Int.reduceBNe Int.reduceLT Int.reduceLE Int.reduceGT Int.reduceGE Int.reduceEq Int.reduceNe Int.reduceAdd Int.reduceSub Int.reduceMul Int.reduceToNat beq_self_eq_true bne_self_eq_false Nat.reduceBEq Nat.reduceSub ge_iff_le gt_iff_lt
theorem tcRDistance (a b : Int) : TC Try.prog 52 [iv a, iv b] (iv (distF a b)) := by
  refine tcW Try.func52 k52 h52 (by simp [c52]) (by simp) [] ?_
  have a1 := Int.tmod_lt_of_pos a (show (0 : Int) < 4294967295 by omega)
  have a2 := Int.lt_tmod_of_pos a (show (0 : Int) < 4294967295 by omega)
  have b1 := Int.tmod_lt_of_pos b (show (0 : Int) < 4294967295 by omega)
  have b2 := Int.lt_tmod_of_pos b (show (0 : Int) < 4294967295 by omega)
  obtain ⟨a3, a4⟩ := tmod_adj a 4294967295 (by omega)
  obtain ⟨b3, b4⟩ := tmod_adj b 4294967295 (by omega)
  have w1 : w64 (b.tmod 4294967295 - a.tmod 4294967295) = b.tmod 4294967295 - a.tmod 4294967295 := w64_of (by omega)
  obtain ⟨x, hx⟩ : ∃ x, x = b.tmod 4294967295 - a.tmod 4294967295 := ⟨_, rfl⟩
  rw [← hx] at w1
  have c1 := Int.tmod_lt_of_pos x (show (0 : Int) < 4294967295 by omega)
  have c2 := Int.lt_tmod_of_pos x (show (0 : Int) < 4294967295 by omega)
  obtain ⟨x3, x4⟩ := tmod_adj x 4294967295 (by omega)
  have e : x % 4294967295 = distF a b := by
    unfold distF mostN
    have ea : ∃ j, a.tmod 4294967295 = a - 4294967295 * j := ⟨a.tdiv 4294967295, by have := Int.mul_tdiv_add_tmod a 4294967295; omega⟩
    have eb : ∃ j, b.tmod 4294967295 = b - 4294967295 * j := ⟨b.tdiv 4294967295, by have := Int.mul_tdiv_add_tmod b 4294967295; omega⟩
    obtain ⟨i, hi⟩ := ea
    obtain ⟨j, hj⟩ := eb
    have : x = (b - a) + 4294967295 * (i - j) := by rw [hx, hi, hj, Int.mul_sub]; omega
    rw [this, Int.add_mul_emod_self_left]
  simp only [go_sem, c52, ← hx, w1]
  by_cases h : x.tmod 4294967295 < 0
  · have w2 : w64 (x.tmod 4294967295 + 4294967295) = distF a b := by rw [w64_of (by omega), x3 h, e]
    simp only [go_sem, h, w2]
  · simp only [go_sem, h]
    rw [x4 h, e]
theorem tcRNewer (a b : Int) : TC Try.prog 51 [iv a, iv b] (tv (newerF (distF a b))) := by
  refine tcW Try.func51 k51 h51 (by simp [c51]) (by simp) [] ?_
  simp only [go_sem, c51]
  refine Wcall_at (tcRDistance a b) (by rfl) ?_
  by_cases h : 1 ≤ distF a b <;> simp only [go_sem, h, newerF, decide_true, decide_false, Bool.true_and, Bool.false_and]
theorem tcRAccept (s : SS) (m : MS) (lost : Int) (hm : m.vs.length ≤ 1099511627776) (h0 : 0 ≤ lost) (h1 : lost ≤ 1099511627776) (h2 : -9223372036854775808 ≤ s.lost) :
    TC Try.prog 50 [sa s, ma m, iv lost] (sa (accF s m lost)) := by
  refine tcW Try.func50 k50 h50 (by simp [c50]) (by simp) [] ?_
  have r1 : m.vs.length * 56 ≤ roomB := by unfold roomB; omega
  simp only [go_sem, c50, sa, scells, ma, mcells, vls]
  refine ⟨by decide, ?_⟩
  by_cases h : s.lost < 1000000
  · have w1 : w64 (s.lost + lost) = s.lost + lost := w64_of (by omega)
    have e : min (s.lost + lost) 1000000 = min (min s.lost 1000000 + lost) 1000000 := by omega
    simp only [go_sem, r1, h, w1, mn_rule, e]
    rfl
  · have e : (1000000 : Int) = min (min s.lost 1000000 + lost) 1000000 := by omega
    simp only [go_sem, r1, h, accF, ← e]
theorem tcRNewS (p r : Int) : TC Try.prog 16 [iv p, iv r] (sa (newS p r)) := by
  refine tcW Try.func16 k16 h16 (by simp [c16]) (by simp) [] ?_
  simp only [go_sem, c16]
  rfl
theorem tcRTick (s : SS) (hr : s.left < 9223372036854775808) : TC Try.prog 18 [sa s] (sa (tickF s)) := by
  refine tcW Try.func18 k18 h18 (by simp [c18]) (by simp) [] ?_
  simp only [go_sem, c18, sa, scells, vls]
  by_cases h : 0 < s.left
  · have w1 : w64 (s.left - 1) = s.left - 1 := w64_of (by omega)
    simp only [go_sem, h, w1, tickF]
  · simp only [go_sem, h, tickF]
theorem tcRTake (s : SS) (m : MS) (hs : s.vs.length ≤ 1099511627776) (hm : m.vs.length ≤ 1099511627776) (hb : ∀ v ∈ m.vs, v.s.length ≤ 1099511627776) (hl : -9223372036854775808 ≤ s.lost) : TC Try.prog 21 [sa s, ma m] (.tup [sa (takeF s m).1, iv (takeF s m).2]) := by
  refine tcW Try.func21 k21 h21 (by simp [c21]) (by simp) [] ?_
  obtain ⟨d0, d1⟩ := distF_rng s.st m.st
  obtain ⟨q0, q1⟩ := distF_rng s.sq m.sq
  simp only [go_sem, c21, sa, scells, ma, mcells, vls]
  refine Wcall_at (tcRMCheck m hm hb) (by rfl) ?_
  by_cases hc : ckM m = 0
  rotate_left
  · have e : (ckM m != 0) = true := by simpa using hc
    have et : takeF s m = (s, 0) := by unfold takeF; rw [if_pos (.inl hc)]
    simp only [go_sem, e, et]
  obtain ⟨o1, o2, o3, o4, o5⟩ := okH_spec (ckM_okH hc)
  simp only [go_sem, hc]
  by_cases hp : m.pub = s.pub
  rotate_left
  · have e : (m.pub != s.pub) = true := by simpa using hp
    have et : takeF s m = (s, 0) := by unfold takeF; rw [if_pos (.inr (.inl hp))]
    simp only [go_sem, e, et]
  have ep : (m.pub != s.pub) = false := by simpa using hp
  simp only [go_sem, ep]
  by_cases hr : m.rev = s.rev
  rotate_left
  · have e : (m.rev != s.rev) = true := by simpa using hr
    have et : takeF s m = (s, 0) := by unfold takeF; rw [if_pos (.inr (.inr hr))]
    simp only [go_sem, e, et]
  have er : (m.rev != s.rev) = false := by simpa using hr
  simp only [go_sem, er]
  have hnf : ¬ (ckM m ≠ 0 ∨ m.pub ≠ s.pub ∨ m.rev ≠ s.rev) := by
    rintro (h | h | h)
    · exact h hc
    · exact h hp
    · exact h hr
  cases hk : s.kn
  · have et : takeF s m = (accF s m 0, 1) := by unfold takeF; rw [if_neg hnf, if_pos hk]
    simp only [go_sem]
    refine Wcall_at (tcRAccept s m 0 hm (by omega) (by omega) hl) (by simp [sa, scells, ma, mcells, vls, hk]) ?_
    simp only [go_sem, sa, scells, vls, et]
  simp only [go_sem]
  have hnk : ¬ s.kn = false := by rw [hk]; simp
  by_cases h1 : s.left < 1
  · have et : takeF s m = (accF s m 0, 5) := by unfold takeF; rw [if_neg hnf, if_neg hnk, if_pos h1]
    simp only [go_sem, h1]
    refine Wcall_at (tcRAccept s m 0 hm (by omega) (by omega) hl) (by simp [sa, scells, ma, mcells, vls, hk]) ?_
    simp only [go_sem, sa, scells, vls, et]
  simp only [go_sem, h1]
  by_cases h2 : m.st = s.st
  · have et : takeF s m = if newerF (distF s.sq m.sq) = true ∧ m.te = s.te ∧ m.vs = s.vs then (accF s m (distF s.sq m.sq - 1), 3) else (s, 4) := by unfold takeF; rw [if_neg hnf, if_neg hnk, if_neg h1, if_pos h2]
    have e2 : (m.st == s.st) = true := by simpa using h2
    simp only [go_sem, e2]
    refine Wcall_at (tcRNewer _ _) (by rfl) ?_
    cases hw : newerF (distF s.sq m.sq)
    · have et2 : takeF s m = (s, 4) := by rw [et, hw]; simp
      simp only [go_sem, et2, sa, scells, vls, hk]
    simp only [go_sem]
    by_cases h3 : m.te = s.te
    rotate_left
    · have e : (m.te == s.te) = false := by simpa using h3
      have et2 : takeF s m = (s, 4) := by rw [et, if_neg (fun h => h3 h.2.1)]
      simp only [go_sem, e, et2, sa, scells, vls, hk]
    have e3 : (m.te == s.te) = true := by simpa using h3
    simp only [go_sem, e3]
    refine Wcall_at (tcRSame m.vs s.vs hm hs) (by rfl) ?_
    by_cases h4 : m.vs = s.vs
    rotate_left
    · have et2 : takeF s m = (s, 4) := by rw [et, if_neg (fun h => h4 h.2.2)]
      have hd : decide (m.vs = s.vs) = false := by simpa using h4
      simp only [go_sem, hd, et2, sa, scells, vls, hk]
    have et2 : takeF s m = (accF s m (distF s.sq m.sq - 1), 3) := by rw [et, if_pos ⟨hw, h3, h4⟩]
    have hw1 : 1 ≤ distF s.sq m.sq := by simp [newerF] at hw; exact hw.1
    have w1 : w64 (distF s.sq m.sq - 1) = distF s.sq m.sq - 1 := w64_of (by omega)
    have hd : decide (m.vs = s.vs) = true := by simpa using h4
    simp only [go_sem, hd]
    refine Wdcall_at (tcRDistance _ _) (by rfl) ?_
    simp only [go_sem, w1]
    refine Wdcall_at (tcRAccept s m (distF s.sq m.sq - 1) hm (by omega) (by omega) hl) (by simp [sa, scells, ma, mcells, vls, hk]) ?_
    simp only [go_sem, sa, scells, vls, et2]
    decide
  have e2 : (m.st == s.st) = false := by simpa using h2
  simp only [go_sem, e2]
  refine Wcall_at (tcRNewer _ _) (by rfl) ?_
  have et : takeF s m = if newerF (distF s.st m.st) = true then (accF s m (distF s.st m.st - 1 + m.sq), 2) else (s, 4) := by unfold takeF; rw [if_neg hnf, if_neg hnk, if_neg h1, if_neg h2]
  cases hw : newerF (distF s.st m.st)
  · have et2 : takeF s m = (s, 4) := by rw [et, hw]; simp
    simp only [go_sem, et2, sa, scells, vls, hk]
  have et2 : takeF s m = (accF s m (distF s.st m.st - 1 + m.sq), 2) := by rw [et, hw]; simp
  have hw1 : 1 ≤ distF s.st m.st := by simp [newerF] at hw; exact hw.1
  have w1 : w64 (distF s.st m.st - 1) = distF s.st m.st - 1 := w64_of (by omega)
  have w2 : w64 (distF s.st m.st - 1 + m.sq) = distF s.st m.st - 1 + m.sq := w64_of (by omega)
  simp only [go_sem]
  refine Wdcall_at (tcRDistance _ _) (by rfl) ?_
  simp only [go_sem, w1, w2]
  refine Wdcall_at (tcRAccept s m (distF s.st m.st - 1 + m.sq) hm (by omega) (by omega) hl) (by simp [sa, scells, ma, mcells, vls, hk]) ?_
  simp only [go_sem, sa, scells, vls, et2]
  decide
theorem tcRSameS (s t : SS) (hs : s.vs.length ≤ 1099511627776) (ht : t.vs.length ≤ 1099511627776) : TC Try.prog 23 [sa s, sa t] (tv (decide (s = t))) := by
  refine tcW Try.func23 k23 h23 (by simp [c23]) (by simp) [] ?_
  obtain ⟨a0, a1, a2, a3, a4, a5, a6, a7, a8⟩ := s
  obtain ⟨b0, b1, b2, b3, b4, b5, b6, b7, b8⟩ := t
  simp only [go_sem, c23, sa, scells, vls]
  by_cases h0 : a0 = b0
  rotate_left
  · have e : (a0 == b0) = false := by simpa using h0
    simp only [go_sem, e]
    simp [h0]
  subst h0
  simp only [go_sem]
  by_cases h1 : a1 = b1
  rotate_left
  · have e : (a1 == b1) = false := by simpa using h1
    simp only [go_sem, e]
    simp [h1]
  subst h1
  simp only [go_sem]
  by_cases h2 : a2 = b2
  rotate_left
  · have e : (a2 == b2) = false := by simpa using h2
    simp only [go_sem, e]
    simp [h2]
  subst h2
  simp only [go_sem]
  by_cases h3 : a3 = b3
  rotate_left
  · have e : (a3 == b3) = false := by simpa using h3
    simp only [go_sem, e]
    simp [h3]
  subst h3
  simp only [go_sem]
  by_cases h4 : a4 = b4
  rotate_left
  · have e : (a4 == b4) = false := by simpa using h4
    simp only [go_sem, e]
    simp [h4]
  subst h4
  simp only [go_sem]
  by_cases h5 : a5 = b5
  rotate_left
  · have e : (a5 == b5) = false := by simpa using h5
    simp only [go_sem, e]
    simp [h5]
  subst h5
  simp only [go_sem]
  by_cases h6 : a6 = b6
  rotate_left
  · have e : (a6 == b6) = false := by simpa using h6
    simp only [go_sem, e]
    simp [h6]
  subst h6
  simp only [go_sem]
  by_cases h7 : a7 = b7
  rotate_left
  · have e : (a7 == b7) = false := by simpa using h7
    simp only [go_sem, e]
    simp [h7]
  subst h7
  simp only [go_sem]
  refine Wcall_at (tcRSame a8 b8 hs ht) (by rfl) ?_
  simp only [go_sem]
  simp
theorem tcSame1 (s : SS) : TC Try.prog 56 [sa s] (.agg [iv s.pub, iv s.rev, iv s.st, iv s.sq, iv s.left, iv s.lost]) := by
  refine tcW Try.func56 k56 h56 (by simp [c56]) (by simp) [] ?_
  simp only [go_sem, c56, sa, scells, vls]
theorem tcSameS (s t : SS) (hs : s.vs.length ≤ 1099511627776) (ht : t.vs.length ≤ 1099511627776) : TC Try.prog 27 [sa s, sa t] (tv (decide (s = t))) := by
  refine tcW Try.func27 k27 h27 (by simp [c27]) (by simp) [] ?_
  obtain ⟨a0, a1, a2, a3, a4, a5, a6, a7, a8⟩ := s
  obtain ⟨b0, b1, b2, b3, b4, b5, b6, b7, b8⟩ := t
  simp only [go_sem, c27, sa, scells, vls]
  refine ⟨[], ?_⟩
  refine Wdcall_at (tcSame1 ⟨a0, a1, a2, a3, a4, a5, a6, a7, a8⟩) (by rfl) ?_
  simp only [go_sem]
  refine ⟨[], ?_⟩
  refine Wdcall_at (tcSame1 ⟨b0, b1, b2, b3, b4, b5, b6, b7, b8⟩) (by rfl) ?_
  simp only [go_sem]
  by_cases hn : a0 = b0 ∧ a1 = b1 ∧ a3 = b3 ∧ a4 = b4 ∧ a5 = b5 ∧ a6 = b6
  rotate_left
  · have e : (a0 == b0 && (a1 == b1 && (a3 == b3 && (a4 == b4 && (a5 == b5 && a6 == b6))))) = false := by
      cases hh : (a0 == b0 && (a1 == b1 && (a3 == b3 && (a4 == b4 && (a5 == b5 && a6 == b6))))) with
      | false => rfl
      | true => simp at hh; exact absurd hh hn
    simp only [go_sem, e]
    refine ⟨by decide, ?_⟩
    have : ¬ ((⟨a0, a1, a2, a3, a4, a5, a6, a7, a8⟩ : SS) = ⟨b0, b1, b2, b3, b4, b5, b6, b7, b8⟩) := by
      intro h
      simp at h
      exact hn ⟨h.1, h.2.1, h.2.2.2.1, h.2.2.2.2.1, h.2.2.2.2.2.1, h.2.2.2.2.2.2.1⟩
    simp [this]
  obtain ⟨rfl, rfl, rfl, rfl, rfl, rfl⟩ := hn
  simp only [go_sem]
  by_cases h2 : a2 = b2
  rotate_left
  · have e : (a2 == b2) = false := by simpa using h2
    simp only [go_sem, e]
    refine ⟨by decide, ?_⟩
    simp [h2]
  subst h2
  simp only [go_sem]
  by_cases h7 : a7 = b7
  rotate_left
  · have e : (a7 == b7) = false := by simpa using h7
    simp only [go_sem, e]
    refine ⟨by decide, ?_⟩
    simp [h7]
  subst h7
  simp only [go_sem]
  refine Wdcall_at (tcSameV a8 b8 hs ht) (by rfl) ?_
  simp only [go_sem]
  refine ⟨by decide, ?_⟩
  simp
theorem tcTo14 (s : SS) (hs : s.vs.length ≤ 1099511627776) : TC Try.prog 24 [sa s] (sa s) := by
  refine tcW Try.func24 k24 h24 (by simp [c24]) (by simp) [] ?_
  simp only [go_sem, c24, sa, scells, vls]
  refine Wdcall_at (tcAll s.vs hs) (by rfl) ?_
  simp only [go_sem, vls]
  decide
theorem tcTo12 (m : MS) (hs : m.vs.length ≤ 1099511627776) : TC Try.prog 22 [ma m] (ma m) := by
  refine tcW Try.func22 k22 h22 (by simp [c22]) (by simp) [] ?_
  simp only [go_sem, c22, ma, mcells, vls]
  refine Wdcall_at (tcStamp12 m.ta m.tb m.tc) (by rfl) ?_
  simp only [go_sem]
  refine Wdcall_at (tcAll m.vs hs) (by rfl) ?_
  simp only [go_sem, vls]
  decide
end Go.Proofs.Ytokbcminleemaaa.Vc
