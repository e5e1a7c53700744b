/- Laws of subscribers. -/
import Derived.Test.YtokbcminleemaaaTsD
set_option linter.unusedSimpArgs false
set_option linter.unusedVariables false
set_option linter.unusedSectionVars false
namespace Go.Proofs.Ytokbcminleemaaa.Vc
open Go Go.Vk Go.Tv Go.Proofs
set_option maxRecDepth 100000
set_option maxHeartbeats 4000000
attribute [local go_sem ↓] W_skip W_reg W_draw W_seq W_cond W_block W_exit W_label W_goto W_ret Kseq_norm Kseq_ret Kseq_ex Kseq_go Kseq_pan Kblk_norm Kblk_ret Kblk_self Kblk_ne Kblk_go Kblk_pan Kloop_ret Kloop_ex Kloop_go Kloop_pan KseqS_norm KseqS_ret KseqS_ex KseqS_pan Kend_norm Kend_ret Kend_ex KscS_norm KscS_ret KscS_ex KscS_go Wr_nil Wr_g Wg_11 Wg_00 Wg_10 Wg_01 Wg_skip Wr_call Wr_callv Wr_inv Winv_if Winv2_some Wr_panic Wr_isnil Wr_op Ev_some Wcv_fn Wd_callv Wd_inv Wdcv_fn Wdinv_if Wdinv2_some ifV_agg ifV_int Wnil_some Wpan_if Wcond_t Wcond_f Wd_nil Wd_g Wd_call Wd_op Wdg_11 Wdg_00 Wdg_10 Wdg_01 Wdg_skip Evd_some step_some step_none val_t val_c get_mk obf_mk rdl_nil rdl_cons aget_cons aget_nil
attribute [local go_sem] pl_mv pl_pick pl_box pl_build pl_bsl pl_ld pl_st pl_nilc pl_bin pl_eqb pl_eq pl_eqn pl_un pl_cvi pl_cvs pl_s2b pl_b2s pl_mki pl_mkf pl_mks pl_sl pl_sls pl_fa pl_fld pl_ia pl_iaA pl_ix pl_ixs pl_ta pl_ex pl_len pl_lens pl_mn pl_mx pl_app pl_apps ev aset adel upd Option.getD_some passAll passV List.append_nil reduceIte Nat.reduceEqDiff decide_eq_true_eq Bool.false_eq_true Bool.true_eq_false reduceCtorEq Nat.reduceAdd updf V.sliceOf placeD placeV V.toDs V.toD1 V.cells List.map_cons List.map_nil Nat.mul_one Nat.zero_mul List.length_nil List.length_cons Nat.zero_add List.nil_append true_and and_true and_self Nat.zero_lt_one if_true if_false Nat.reduceLT Nat.reduceLeDiff Nat.reduceMul splice List.take_zero List.drop_zero List.drop_nil Bool.not_true Bool.not_false bne_self_eq_false Bool.bne_true Bool.bne_false Bool.false_bne Bool.true_bne List.cons_append eq_self Option.map_some Option.map_none boundO bound b_and b_or b_add b_sub b_mul b_rem b_eql b_neq b_lss b_leq b_gtr b_geq b_seql b_sneq b_shr8 b_shl8 decide_true decide_false IOp.xs List.flatMap_cons List.flatMap_nil V.ids V.ids1 V.ids0
attribute [local go_sem] Vk.RetB resVs resV outOf Vk.init recvs recvV recv enumFrom
attribute [local go_sem] bs_length NDs_length VLDs_length bs_nil bs_cons bytesOf_bs
attribute [local go_sem] le_1 le_2 le_3 le_4 le_5 le_6 le_7 le_8 le_9 le_10 le_11 le_12 le_o0 ck_bool ck_int ck_str ck_slice ck_ni ck_if ck_nils ck_own nat_nn Int.cast_ofNat_Int datas V.data? eqCells eqD Bool.true_and Bool.false_and List.all_cons List.all_nil Bool.and_true Bool.and_self List.take_succ_cons List.drop_succ_cons List.getElem?_cons_zero List.getElem?_cons_succ Int.toNat_natCast Nat.add_zero Nat.sub_zero
attribute [local go_sem] Int.reduceBEq Int.reduceBNe Int.reduceLT Int.reduceLE Int.reduceGT Int.reduceGE Int.reduceEq Int.reduceNe Int.reduceAdd Int.reduceSub Int.reduceMul Int.reduceToNat beq_self_eq_true bne_self_eq_false Nat.reduceBEq Nat.reduceSub ge_iff_le gt_iff_lt
theorem evM_ok (e : EV) : ckM (evM e) = 0 := by
  rw [ckM_eq]
  have h1 : okH (evM e) = true := by
    have a1 : 1 ≤ 1 + e.ttl % 4 ∧ 1 + e.ttl % 4 ≤ 65535 := by omega
    have a2 : 1 ≤ 1 + e.st % 6 ∧ 1 + e.st % 6 ≤ 4294967295 := by omega
    have a3 : 0 ≤ e.sq % 5 ∧ e.sq % 5 ≤ 4294967295 := by omega
    simp [okH, evM, a1, a2, a3]
  have h2 : ckT (evM e) = 0 := by rfl
  have h3 : ckVs (evM e).vs = 0 := by
    cases hv : e.val <;> simp [evM, hv, ckVs, ckV, confl]
  rw [if_pos h1, h2, h3]
  simp [evM]
theorem takeF_pub (s : SS) (m : MS) : (takeF s m).1.pub = s.pub ∧ (takeF s m).1.rev = s.rev := by
  unfold takeF
  repeat' split
  all_goals exact ⟨rfl, rfl⟩
theorem tickF_pub (s : SS) : (tickF s).pub = s.pub ∧ (tickF s).rev = s.rev := by
  unfold tickF
  split <;> exact ⟨rfl, rfl⟩
theorem newer0 (a : Int) : newerF (distF a a) = false := by
  have : distF a a = 0 := by unfold distF; simp
  rw [this]; rfl
theorem not_foreign {s : SS} {m : MS} (hc : ckM m = 0) (hp : m.pub = s.pub) (hr : m.rev = s.rev) : ¬ (ckM m ≠ 0 ∨ m.pub ≠ s.pub ∨ m.rev ≠ s.rev) := by
  rintro (h | h | h)
  · exact h hc
  · exact h hp
  · exact h hr
/-- What has been taken changes nothing when it is taken again. -/
theorem take_twice {s : SS} {m : MS} (hc : ckM m = 0) (hp : m.pub = s.pub) (hr : m.rev = s.rev) : takeF (takeF s m).1 m = ((takeF s m).1, 4) := by
  have httl := (okH_spec (ckM_okH hc)).2.1
  have acc : ∀ l, takeF (accF s m l) m = (accF s m l, 4) := fun l => by
    have hn : ¬ (ckM m ≠ 0 ∨ m.pub ≠ (accF s m l).pub ∨ m.rev ≠ (accF s m l).rev) := not_foreign hc hp hr
    unfold takeF
    rw [if_neg hn, if_neg (by simp [accF]), if_neg (by simp only [accF]; omega), if_pos (by simp [accF]), if_neg]
    rintro ⟨h, _⟩
    have : distF (accF s m l).sq m.sq = distF m.sq m.sq := rfl
    rw [this, newer0] at h
    simp at h
  have e : takeF s m = takeF s m := rfl
  have hn := not_foreign (s := s) hc hp hr
  generalize hq : takeF s m = q
  unfold takeF at hq
  rw [if_neg hn] at hq
  split at hq
  · subst hq; exact acc _
  split at hq
  · subst hq; exact acc _
  split at hq
  · split at hq
    · subst hq; exact acc _
    · rename_i h1 h2 h3 h4
      subst hq
      simp only []
      unfold takeF
      rw [if_neg hn, if_neg h1, if_neg h2, if_pos h3, if_neg h4]
  · split at hq
    · subst hq; exact acc _
    · rename_i h1 h2 h3 h4
      subst hq
      simp only []
      unfold takeF
      rw [if_neg hn, if_neg h1, if_neg h2, if_neg h3, if_neg h4]
def J3 (s : SS) : Prop := okS s ∧ s.pub = 3 ∧ s.rev = 4
theorem J3_new : J3 (newS 3 4) := ⟨okS_new 3 4, rfl, rfl⟩
theorem J3_take {s : SS} (h : J3 s) (e : EV) : J3 (takeF s (evM e)).1 :=
  ⟨okS_take h.1 (by rw [evM_vs]; omega), (takeF_pub s _).1.trans h.2.1, (takeF_pub s _).2.trans h.2.2⟩
theorem J3_tick {s : SS} (h : J3 s) : J3 (tickF s) := ⟨okS_tick h.1, (tickF_pub s).1.trans h.2.1, (tickF_pub s).2.trans h.2.2⟩
theorem tc14Doubles (L : List EV) (e : EV) (hL : L.length < 9223372036854775808) : TC Try.prog 9 [evs L, eva e] (tv true) := by
  refine tcW Try.func9 k9 h9 (by simp [c9]) (by simp) [] ?_
  simp only [go_sem, c9, evs, eva]
  refine Wcall_some tcKnown14 ?_
  simp only [go_sem]
  refine Wcall_some (tcNewS 3 4) ?_
  simp only [go_sem, sa, scells, vls]
  refine W_loop 120 [.keep 0, .keep 3, .keep 5, .keep 6] (fun m st => ∃ p r s, L = p ++ r ∧ J3 s ∧ m = r.length ∧ st = ⟨[(0, evs L), (3, .ptr 64 0), (5, .ptr 104 0), (6, iv p.length)], [(64, .box [iv e.st, iv e.sq, iv e.ttl, tv e.val, tv e.test, tv e.tick]), (104, .box (scells s))], 2168⟩) (by omega) L.length _ (by simp [norm, normGo, boxesBelow, ownIds, adelAll, V.under, St.get, St.obf, aget, adel, evs, scells, vls]) ⟨[], L, newS 3 4, rfl, J3_new, rfl, rfl⟩ ?_
  rintro m st ⟨p, r, s, hp, hs, rfl, rfl⟩
  have hs' := hs.1
  obtain ⟨s1, s2, s3⟩ := hs'
  have ok := J3_take hs e
  have tw := take_twice (s := s) (evM_ok e) (by rw [hs.2.1]; rfl) (by rw [hs.2.2]; rfl)
  by_cases hgo : (p.length : Int) < (L.length : Int) ∧ (p.length : Int) < 100
  rotate_left
  · by_cases c2 : (p.length : Int) < (L.length : Int)
    · have h100 : ¬ (p.length : Int) < 100 := fun h => hgo ⟨c2, h⟩
      simp only [go_sem, c2, h100, evs, scells, vls]
      refine Wdcall_at (tcEvent e) (by rfl) ?_
      simp only [go_sem, ma, mcells, vls]
      refine Wdcall_at (tcTake s (evM e) (by omega) (by rw [evM_vs]; omega) s2) (by rfl) ?_
      simp only [go_sem, sa, scells, vls]
      refine ⟨by rfl, ?_⟩
      refine Wdcall_at (tcEvent e) (by rfl) ?_
      simp only [go_sem, ma, mcells, vls]
      refine Wdcall_at (tcTake (takeF s (evM e)).1 (evM e) (by have := ok.1.1; omega) (by rw [evM_vs]; omega) ok.1.2.1) (by rfl) ?_
      simp only [go_sem, sa, scells, vls, tw]
      refine ⟨by rfl, ?_⟩
      refine Wcall_at (tcSameS (takeF s (evM e)).1 (takeF s (evM e)).1 (by have := ok.1.1; omega) (by have := ok.1.1; omega)) (by rfl) ?_
      simp only [go_sem]
    · simp only [go_sem, c2, evs, scells, vls]
      refine Wdcall_at (tcEvent e) (by rfl) ?_
      simp only [go_sem, ma, mcells, vls]
      refine Wdcall_at (tcTake s (evM e) (by omega) (by rw [evM_vs]; omega) s2) (by rfl) ?_
      simp only [go_sem, sa, scells, vls]
      refine ⟨by rfl, ?_⟩
      refine Wdcall_at (tcEvent e) (by rfl) ?_
      simp only [go_sem, ma, mcells, vls]
      refine Wdcall_at (tcTake (takeF s (evM e)).1 (evM e) (by have := ok.1.1; omega) (by rw [evM_vs]; omega) ok.1.2.1) (by rfl) ?_
      simp only [go_sem, sa, scells, vls, tw]
      refine ⟨by rfl, ?_⟩
      refine Wcall_at (tcSameS (takeF s (evM e)).1 (takeF s (evM e)).1 (by have := ok.1.1; omega) (by have := ok.1.1; omega)) (by rfl) ?_
      simp only [go_sem]
  cases r with
  | nil => exact absurd hgo.1 (by subst hp; simp)
  | cons x r =>
    obtain ⟨c2, c3, hdrop, hpl⟩ := at_ev hp
    have w5 : w64 ((p.length : Int) + 1) = p.length + 1 := w64_of (by omega)
    have h100 := hgo.2
    simp only [go_sem, c2, c3, h100, hdrop, evs, EVDs_length]
    cases hx : x.tick
    · simp only [go_sem, c2, c3, hdrop, EVDs_length, scells, vls]
      refine Wdcall_at (tcEvent x) (by simp [eva, hx]) ?_
      simp only [go_sem, ma, mcells, vls]
      refine Wdcall_at (tcTake s (evM x) (by omega) (by rw [evM_vs]; omega) s2) (by rfl) ?_
      simp only [go_sem, sa, scells, vls, w5, Kloop_norm]
      exact ⟨by rfl, r.length, _, by simp, (by simp [norm, normGo, boxesBelow, ownIds, adelAll, V.under, St.get, St.obf, aget, adel]; rfl), p ++ [x], r, (takeF s (evM x)).1, by simp [hp], J3_take hs x, rfl, by simp [evs, scells, vls]⟩
    · simp only [go_sem, c2, c3, hdrop, EVDs_length, scells, vls]
      refine Wcall_at (tcTick s (by omega) s3) (by rfl) ?_
      simp only [go_sem, sa, scells, vls, w5, Kloop_norm]
      exact ⟨r.length, _, by simp, (by simp [norm, normGo, boxesBelow, ownIds, adelAll, V.under, St.get, St.obf, aget, adel]; rfl), p ++ [x], r, tickF s, by simp [hp], J3_tick hs, rfl, by simp [evs, scells, vls]⟩
end Go.Proofs.Ytokbcminleemaaa.Vc
