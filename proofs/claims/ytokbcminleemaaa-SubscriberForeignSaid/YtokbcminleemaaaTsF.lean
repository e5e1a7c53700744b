/- Laws of subscribers: messages of others; never back. -/
import Derived.Test.YtokbcminleemaaaTsE
set_option linter.unusedSimpArgs false
set_option linter.unusedVariables false
set_option linter.unusedSectionVars false
namespace Go.Proofs.Ytokbcminleemaaa.Vc
open Go Go.Vk Go.Tv Go.Proofs
set_option maxRecDepth 100000
set_option maxHeartbeats 4000000
attribute [local go_sem ↓] W_skip W_reg W_draw W_seq W_cond W_block W_exit W_label W_goto W_ret Kseq_norm Kseq_ret Kseq_ex Kseq_go Kseq_pan Kblk_norm Kblk_ret Kblk_self Kblk_ne Kblk_go Kblk_pan Kloop_ret Kloop_ex Kloop_go Kloop_pan KseqS_norm KseqS_ret KseqS_ex KseqS_pan Kend_norm Kend_ret Kend_ex KscS_norm KscS_ret KscS_ex KscS_go Wr_nil Wr_g Wg_11 Wg_00 Wg_10 Wg_01 Wg_skip Wr_call Wr_callv Wr_inv Winv_if Winv2_some Wr_panic Wr_isnil Wr_op Ev_some Wcv_fn Wd_callv Wd_inv Wdcv_fn Wdinv_if Wdinv2_some ifV_agg ifV_int Wnil_some Wpan_if Wcond_t Wcond_f Wd_nil Wd_g Wd_call Wd_op Wdg_11 Wdg_00 Wdg_10 Wdg_01 Wdg_skip Evd_some step_some step_none val_t val_c get_mk obf_mk rdl_nil rdl_cons aget_cons aget_nil
attribute [local go_sem] pl_mv pl_pick pl_box pl_build pl_bsl pl_ld pl_st pl_nilc pl_bin pl_eqb pl_eq pl_eqn pl_un pl_cvi pl_cvs pl_s2b pl_b2s pl_mki pl_mkf pl_mks pl_sl pl_sls pl_fa pl_fld pl_ia pl_iaA pl_ix pl_ixs pl_ta pl_ex pl_len pl_lens pl_mn pl_mx pl_app pl_apps ev aset adel upd Option.getD_some passAll passV List.append_nil reduceIte Nat.reduceEqDiff decide_eq_true_eq Bool.false_eq_true Bool.true_eq_false reduceCtorEq Nat.reduceAdd updf V.sliceOf placeD placeV V.toDs V.toD1 V.cells List.map_cons List.map_nil Nat.mul_one Nat.zero_mul List.length_nil List.length_cons Nat.zero_add List.nil_append true_and and_true and_self Nat.zero_lt_one if_true if_false Nat.reduceLT Nat.reduceLeDiff Nat.reduceMul splice List.take_zero List.drop_zero List.drop_nil Bool.not_true Bool.not_false bne_self_eq_false Bool.bne_true Bool.bne_false Bool.false_bne Bool.true_bne List.cons_append eq_self Option.map_some Option.map_none boundO bound b_and b_or b_add b_sub b_mul b_rem b_eql b_neq b_lss b_leq b_gtr b_geq b_seql b_sneq b_shr8 b_shl8 decide_true decide_false IOp.xs List.flatMap_cons List.flatMap_nil V.ids V.ids1 V.ids0
attribute [local go_sem] Vk.RetB resVs resV outOf Vk.init recvs recvV recv enumFrom
attribute [local go_sem] bs_length NDs_length VLDs_length bs_nil bs_cons bytesOf_bs
attribute [local go_sem] le_1 le_2 le_3 le_4 le_5 le_6 le_7 le_8 le_9 le_10 le_11 le_12 le_o0 ck_bool ck_int ck_str ck_slice ck_ni ck_if ck_nils ck_own nat_nn Int.cast_ofNat_Int datas V.data? eqCells eqD Bool.true_and Bool.false_and List.all_cons List.all_nil Bool.and_true Bool.and_self List.take_succ_cons List.drop_succ_cons List.getElem?_cons_zero List.getElem?_cons_succ Int.toNat_natCast Nat.add_zero Nat.sub_zero
attribute [local go_sem] Int.reduceBEq Int.reduceBNe Int.reduceLT Int.reduceLE Int.reduceGT Int.reduceGE Int.reduceEq Int.reduceNe Int.reduceAdd Int.reduceSub Int.reduceMul Int.reduceToNat beq_self_eq_true bne_self_eq_false Nat.reduceBEq Nat.reduceSub ge_iff_le gt_iff_lt
theorem largeL_len {L : List VL} (h : largeL L = false) : L.length ≤ 60 ∧ ∀ v ∈ L, v.s.length ≤ 200 := by
  simp [largeL] at h
  exact ⟨by omega, fun v hv => by have := h.2 v hv; omega⟩
/-- Whatever is not foreign is something. -/
theorem take_not0 {s : SS} {m : MS} (h : ¬ (ckM m ≠ 0 ∨ m.pub ≠ s.pub ∨ m.rev ≠ s.rev)) : (takeF s m).2 ≠ 0 := by
  unfold takeF
  rw [if_neg h]
  repeat' split
  all_goals simp
theorem takeF_len (s : SS) (m : MS) : (takeF s m).1.vs = s.vs ∨ (takeF s m).1.vs = m.vs := by
  unfold takeF
  repeat' split
  all_goals first | exact .inl rfl | exact .inr rfl
theorem tc14Foreign (s : SS) (m : MS) (hl : -9223372036854775808 ≤ s.lost) : TC Try.prog 4 [sa s, ma m] (tv true) := by
  refine tcW Try.func4 k4 h4 (by simp [c4]) (by simp) [] ?_
  simp only [go_sem, c4, sa, scells, ma, mcells, vls]
  refine Wcall_some tcKnown14 ?_
  simp only [go_sem]
  refine Wcall_at (tcLarge s.vs) (by rfl) ?_
  cases g1 : largeL s.vs
  rotate_left
  · simp only [go_sem]
  simp only [go_sem]
  refine Wcall_at (tcLarge m.vs) (by rfl) ?_
  cases g2 : largeL m.vs
  rotate_left
  · simp only [go_sem]
  obtain ⟨ls, _⟩ := largeL_len g1
  obtain ⟨lm, bm⟩ := largeL_len g2
  simp only [go_sem]
  refine Wcall_at (tcTake s m (by omega) (by omega) hl) (by rfl) ?_
  have lt : (takeF s m).1.vs.length ≤ 1099511627776 := by
    rcases takeF_len s m with h | h <;> rw [h] <;> omega
  simp only [go_sem, sa, scells, vls]
  -- what is foreign
  by_cases hf : ckM m ≠ 0 ∨ m.pub ≠ s.pub ∨ m.rev ≠ s.rev
  · have et : takeF s m = (s, 0) := by unfold takeF; rw [if_pos hf]
    simp only [et]
    by_cases hp : m.pub = s.pub
    · have ep : (m.pub != s.pub) = false := by simpa using hp
      by_cases hr : m.rev = s.rev
      · have er : (m.rev != s.rev) = false := by simpa using hr
        have hc : ckM m ≠ 0 := by
          rcases hf with h | h | h
          · exact h
          · exact absurd hp h
          · exact absurd hr h
        have ec : (ckM m != 0) = true := by simpa using hc
        simp only [go_sem, ep, er]
        refine Wcall_at (tcTo12 m (by omega)) (by rfl) ?_
        simp only [go_sem, ma, mcells, vls]
        refine Wcall_at (tcRMCheck m (by omega) (fun v hv => by have := bm v hv; omega)) (by rfl) ?_
        simp only [go_sem, ec]
        refine Wdcall_at (tcSameS s s (by omega) (by omega)) (by rfl) ?_
        simp only [go_sem]
        refine Wdcall_at (tcAll s.vs (by omega)) (by rfl) ?_
        simp only [go_sem, vls]
        refine Wdcall_at (tcAll s.vs (by omega)) (by rfl) ?_
        simp only [go_sem, vls]
        refine Wdcall_at (tcRSame s.vs s.vs (by omega) (by omega)) (by rfl) ?_
        simp only [go_sem]
        first | exact ⟨by rfl, trivial⟩ | rfl
      · have er : (m.rev != s.rev) = true := by simpa using hr
        simp only [go_sem, ep, er]
        refine Wdcall_at (tcSameS s s (by omega) (by omega)) (by rfl) ?_
        simp only [go_sem]
        refine Wdcall_at (tcAll s.vs (by omega)) (by rfl) ?_
        simp only [go_sem, vls]
        refine Wdcall_at (tcAll s.vs (by omega)) (by rfl) ?_
        simp only [go_sem, vls]
        refine Wdcall_at (tcRSame s.vs s.vs (by omega) (by omega)) (by rfl) ?_
        simp only [go_sem]
        first | exact ⟨by rfl, trivial⟩ | rfl
    · have ep : (m.pub != s.pub) = true := by simpa using hp
      simp only [go_sem, ep]
      refine Wdcall_at (tcSameS s s (by omega) (by omega)) (by rfl) ?_
      simp only [go_sem]
      refine Wdcall_at (tcAll s.vs (by omega)) (by rfl) ?_
      simp only [go_sem, vls]
      refine Wdcall_at (tcAll s.vs (by omega)) (by rfl) ?_
      simp only [go_sem, vls]
      refine Wdcall_at (tcRSame s.vs s.vs (by omega) (by omega)) (by rfl) ?_
      simp only [go_sem]
      first | exact ⟨by rfl, trivial⟩ | rfl
  · have h0 := take_not0 hf
    have e0 : ((takeF s m).2 != 0) = true := by simpa using h0
    have hp : m.pub = s.pub := Decidable.byContradiction fun h => hf (.inr (.inl h))
    have hr : m.rev = s.rev := Decidable.byContradiction fun h => hf (.inr (.inr h))
    have hc : ckM m = 0 := Decidable.byContradiction fun h => hf (.inl h)
    have ep : (m.pub != s.pub) = false := by simpa using hp
    have er : (m.rev != s.rev) = false := by simpa using hr
    simp only [go_sem, ep, er]
    refine Wcall_at (tcTo12 m (by omega)) (by rfl) ?_
    simp only [go_sem, ma, mcells, vls]
    refine Wcall_at (tcRMCheck m (by omega) (fun v hv => by have := bm v hv; omega)) (by rfl) ?_
    simp only [go_sem, hc, e0]
/-- A state that events of the small family bring about. -/
def J4 (s : SS) : Prop := J3 s ∧ (0 ≤ s.st ∧ s.st ≤ 6) ∧ (0 ≤ s.sq ∧ s.sq ≤ 4)
theorem J4_new : J4 (newS 3 4) := ⟨J3_new, by decide, by decide⟩
theorem J4_tick {s : SS} (h : J4 s) : J4 (tickF s) := by
  refine ⟨J3_tick h.1, ?_⟩
  unfold tickF
  split <;> exact h.2
theorem evM_rng (e : EV) : (1 ≤ (evM e).st ∧ (evM e).st ≤ 6) ∧ (0 ≤ (evM e).sq ∧ (evM e).sq ≤ 4) := by
  simp only [evM]
  omega
theorem J4_take {s : SS} (h : J4 s) (e : EV) : J4 (takeF s (evM e)).1 := by
  refine ⟨J3_take h.1 e, ?_⟩
  have r := evM_rng e
  have acc : ∀ l, (0 ≤ (accF s (evM e) l).st ∧ (accF s (evM e) l).st ≤ 6) ∧ (0 ≤ (accF s (evM e) l).sq ∧ (accF s (evM e) l).sq ≤ 4) := fun l => by
    simp only [accF]; omega
  unfold takeF
  repeat' split
  all_goals first | exact h.2 | exact acc _
theorem distF_small {a b : Int} (ha : 0 ≤ a ∧ a ≤ 6) (hb : 0 ≤ b ∧ b ≤ 6) : newerF (distF a b) = decide (a < b) := by
  unfold newerF distF mostN
  by_cases h : a < b
  · rw [Int.emod_eq_of_lt (by omega) (by omega)]
    have h1 : (1 : Int) ≤ b - a := by omega
    have h2 : b - a ≤ 2147483647 := by omega
    simp [h, h1, h2]
  · by_cases h0 : a = b
    · subst h0; simp
    · have : (b - a) % 4294967295 = b - a + 4294967295 := by
        rw [← Int.add_emod_right, Int.emod_eq_of_lt (by omega) (by omega)]
      rw [this]
      have h2 : ¬ (b - a + 4294967295 ≤ 2147483647) := by omega
      simp [h, h2]
/-- What a message of the small family comes to. -/
theorem take_cases {s : SS} (h : J4 s) (e : EV) :
    ((takeF s (evM e)).2 = 1 ∨ (takeF s (evM e)).2 = 5) ∨ ((takeF s (evM e)).2 = 3 ∧ (evM e).st = s.st ∧ s.sq < (evM e).sq) ∨ ((takeF s (evM e)).2 = 2 ∧ s.st < (evM e).st) ∨ (takeF s (evM e) = (s, 4) ∧ (evM e).st ≤ s.st) := by
  have r := evM_rng e
  have hn := not_foreign (s := s) (evM_ok e) (by rw [h.1.2.1]; rfl) (by rw [h.1.2.2]; rfl)
  have d1 := distF_small (a := s.st) (b := (evM e).st) h.2.1 (by omega)
  have d2 := distF_small (a := s.sq) (b := (evM e).sq) (by have := h.2.2; omega) (by omega)
  unfold takeF
  rw [if_neg hn]
  split
  · exact .inl (.inl rfl)
  split
  · exact .inl (.inr rfl)
  split
  · rename_i hst
    split
    · rename_i hw
      rw [d2] at hw
      exact .inr (.inl ⟨rfl, hst, by simpa using hw.1⟩)
    · exact .inr (.inr (.inr ⟨rfl, by omega⟩))
  · split
    · rename_i hw
      rw [d1] at hw
      exact .inr (.inr (.inl ⟨rfl, by simpa using hw⟩))
    · rename_i hw
      rw [d1] at hw
      refine .inr (.inr (.inr ⟨rfl, ?_⟩))
      simp at hw
      omega
theorem tc14NeverBack (L : List EV) (hL : L.length < 9223372036854775808) : TC Try.prog 8 [evs L] (tv true) := by
  refine tcW Try.func8 k8 h8 (by simp [c8]) (by simp) [] ?_
  simp only [go_sem, c8, evs]
  refine Wcall_some tcKnown14 ?_
  simp only [go_sem]
  refine Wcall_some (tcNewS 3 4) ?_
  simp only [go_sem, sa, scells, vls]
  refine W_loop 120 [.keep 0, .keep 3, .keep 4] (fun m st => ∃ p r s, L = p ++ r ∧ J4 s ∧ m = r.length ∧ st = ⟨[(0, evs L), (3, .ptr 96 0), (4, iv p.length)], [(96, .box (scells s))], 2168⟩) (by omega) L.length _ (by simp [norm, normGo, boxesBelow, ownIds, adelAll, V.under, St.get, St.obf, aget, adel, evs, scells, vls]) ⟨[], L, newS 3 4, rfl, J4_new, rfl, rfl⟩ ?_
  rintro m st ⟨p, r, s, hp, hs, rfl, rfl⟩
  have hs' := hs.1.1
  obtain ⟨s1, s2, s3⟩ := hs'
  cases r with
  | nil =>
    have hn : ¬ ((p.length : Int) < (L.length : Int)) := by subst hp; simp
    simp only [go_sem, hn, evs]
  | cons x r =>
    obtain ⟨c2, c3, hdrop, hpl⟩ := at_ev hp
    have w5 : w64 ((p.length : Int) + 1) = p.length + 1 := w64_of (by omega)
    by_cases h200 : (p.length : Int) < 200
    rotate_left
    · simp only [go_sem, c2, h200, evs]
    simp only [go_sem, c2, c3, h200, hdrop, evs, EVDs_length]
    cases hx : x.tick
    rotate_left
    · simp only [go_sem, c2, c3, hdrop, EVDs_length, scells, vls]
      refine Wcall_at (tcTick s (by omega) s3) (by rfl) ?_
      simp only [go_sem, sa, scells, vls, w5, Kloop_norm]
      exact ⟨r.length, _, by simp, (by simp [norm, normGo, boxesBelow, ownIds, adelAll, V.under, St.get, St.obf, aget, adel]; rfl), p ++ [x], r, tickF s, by simp [hp], J4_tick hs, rfl, by simp [evs, scells, vls]⟩
    simp only [go_sem, c2, c3, hdrop, EVDs_length, scells, vls]
    refine Wcall_at (tcEvent x) (by simp [eva, hx]) ?_
    simp only [go_sem, ma, mcells, vls]
    refine Wcall_at (tcTake s (evM x) (by omega) (by rw [evM_vs]; omega) s2) (by rfl) ?_
    simp only [go_sem, sa, scells, vls]
    have rng := evM_rng x
    rcases take_cases hs x with (h | h) | ⟨h, h1, h2⟩ | ⟨h, h1⟩ | ⟨h, h1⟩
    · simp only [go_sem, h, w5, Kloop_norm]
      exact ⟨r.length, _, by simp, (by simp [norm, normGo, boxesBelow, ownIds, adelAll, V.under, St.get, St.obf, aget, adel]; rfl), p ++ [x], r, (takeF s (evM x)).1, by simp [hp], J4_take hs x, rfl, by simp [evs, scells, vls]⟩
    · simp only [go_sem, h, w5, Kloop_norm]
      exact ⟨r.length, _, by simp, (by simp [norm, normGo, boxesBelow, ownIds, adelAll, V.under, St.get, St.obf, aget, adel]; rfl), p ++ [x], r, (takeF s (evM x)).1, by simp [hp], J4_take hs x, rfl, by simp [evs, scells, vls]⟩
    · have e1 : ¬ (evM x).st < s.st := by omega
      have e2 : ((evM x).st == s.st) = true := by simpa using h1
      have e3 : ¬ (evM x).sq ≤ s.sq := by omega
      simp only [go_sem, h, e1, e2, e3, w5, Kloop_norm]
      exact ⟨r.length, _, by simp, (by simp [norm, normGo, boxesBelow, ownIds, adelAll, V.under, St.get, St.obf, aget, adel]; rfl), p ++ [x], r, (takeF s (evM x)).1, by simp [hp], J4_take hs x, rfl, by simp [evs, scells, vls]⟩
    · have e1 : ¬ (evM x).st < s.st := by omega
      have e2 : ((evM x).st == s.st) = false := by simp; omega
      simp only [go_sem, h, e1, e2, w5, Kloop_norm]
      exact ⟨r.length, _, by simp, (by simp [norm, normGo, boxesBelow, ownIds, adelAll, V.under, St.get, St.obf, aget, adel]; rfl), p ++ [x], r, (takeF s (evM x)).1, by simp [hp], J4_take hs x, rfl, by simp [evs, scells, vls]⟩
    · have e1 : ¬ s.st < (evM x).st := by omega
      simp only [go_sem, h]
      refine Wcall_at (tcSameS s s (by omega) (by omega)) (by rfl) ?_
      simp only [go_sem, e1, w5, Kloop_norm]
      exact ⟨r.length, _, by simp, (by simp [norm, normGo, boxesBelow, ownIds, adelAll, V.under, St.get, St.obf, aget, adel]; rfl), p ++ [x], r, s, by simp [hp], hs, rfl, by simp [evs, scells, vls]⟩
end Go.Proofs.Ytokbcminleemaaa.Vc
