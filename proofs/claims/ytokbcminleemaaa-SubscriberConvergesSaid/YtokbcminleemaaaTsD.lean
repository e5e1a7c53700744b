/- Contracts of functions: events of a subscriber; the sanity check. -/
import Derived.Test.YtokbcminleemaaaTsC
import Derived.Test.YtokbcminleemaaaVcLaw14
set_option linter.unusedSimpArgs false
set_option linter.unusedVariables false
set_option linter.unusedSectionVars false
namespace Go.Proofs.Ytokbcminleemaaa.Vc
open Go Go.Vk Go.Tv Go.Proofs
set_option maxRecDepth 100000
set_option maxHeartbeats 4000000
attribute [local go_sem ↓] W_skip W_reg W_draw W_seq W_cond W_block W_exit W_label W_goto W_ret Kseq_norm Kseq_ret Kseq_ex Kseq_go Kseq_pan Kblk_norm Kblk_ret Kblk_self Kblk_ne Kblk_go Kblk_pan Kloop_ret Kloop_ex Kloop_go Kloop_pan KseqS_norm KseqS_ret KseqS_ex KseqS_pan Kend_norm Kend_ret Kend_ex KscS_norm KscS_ret KscS_ex KscS_go Wr_nil Wr_g Wg_11 Wg_00 Wg_10 Wg_01 Wg_skip Wr_call Wr_callv Wr_inv Winv_if Winv2_some Wr_panic Wr_isnil Wr_op Ev_some Wcv_fn Wd_callv Wd_inv Wdcv_fn Wdinv_if Wdinv2_some ifV_agg ifV_int Wnil_some Wpan_if Wcond_t Wcond_f Wd_nil Wd_g Wd_call Wd_op Wdg_11 Wdg_00 Wdg_10 Wdg_01 Wdg_skip Evd_some step_some step_none val_t val_c get_mk obf_mk rdl_nil rdl_cons aget_cons aget_nil
attribute [local go_sem] pl_mv pl_pick pl_box pl_build pl_bsl pl_ld pl_st pl_nilc pl_bin pl_eqb pl_eq pl_eqn pl_un pl_cvi pl_cvs pl_s2b pl_b2s pl_mki pl_mkf pl_mks pl_sl pl_sls pl_fa pl_fld pl_ia pl_iaA pl_ix pl_ixs pl_ta pl_ex pl_len pl_lens pl_mn pl_mx pl_app pl_apps ev aset adel upd Option.getD_some passAll passV List.append_nil reduceIte Nat.reduceEqDiff decide_eq_true_eq Bool.false_eq_true Bool.true_eq_false reduceCtorEq Nat.reduceAdd updf V.sliceOf placeD placeV V.toDs V.toD1 V.cells List.map_cons List.map_nil Nat.mul_one Nat.zero_mul List.length_nil List.length_cons Nat.zero_add List.nil_append true_and and_true and_self Nat.zero_lt_one if_true if_false Nat.reduceLT Nat.reduceLeDiff Nat.reduceMul splice List.take_zero List.drop_zero List.drop_nil Bool.not_true Bool.not_false bne_self_eq_false Bool.bne_true Bool.bne_false Bool.false_bne Bool.true_bne List.cons_append eq_self Option.map_some Option.map_none boundO bound b_and b_or b_add b_sub b_mul b_rem b_eql b_neq b_lss b_leq b_gtr b_geq b_seql b_sneq b_shr8 b_shl8 decide_true decide_false IOp.xs List.flatMap_cons List.flatMap_nil V.ids V.ids1 V.ids0
attribute [local go_sem] Vk.RetB resVs resV outOf Vk.init recvs recvV recv enumFrom
attribute [local go_sem] bs_length NDs_length VLDs_length bs_nil bs_cons bytesOf_bs
attribute [local go_sem] le_1 le_2 le_3 le_4 le_5 le_6 le_7 le_8 le_9 le_10 le_11 le_12 le_o0 ck_bool ck_int ck_str ck_slice ck_ni ck_if ck_nils ck_own nat_nn Int.cast_ofNat_Int datas V.data? eqCells eqD Bool.true_and Bool.false_and List.all_cons List.all_nil Bool.and_true Bool.and_self List.take_succ_cons List.drop_succ_cons List.getElem?_cons_zero List.getElem?_cons_succ Int.toNat_natCast Nat.add_zero Nat.sub_zero
attribute [local go_sem] Int.reduceBEq Int.reduceBNe Int.reduceLT Int.reduceLE Int.reduceGT Int.reduceGE Int.reduceEq Int.reduceNe Int.reduceAdd Int.reduceSub Int.reduceMul Int.reduceToNat beq_self_eq_true bne_self_eq_false Nat.reduceBEq Nat.reduceSub ge_iff_le gt_iff_lt
structure EV where
  st : Int
  sq : Int
  ttl : Int
  val : Bool
  test : Bool
  tick : Bool
  deriving Inhabited
def EVD (e : EV) : List D := [.int .i64 e.st, .int .i64 e.sq, .int .i64 e.ttl, .bool e.val, .bool e.test, .bool e.tick]
def EVDs : List EV → List D
  | [] => []
  | e :: r => EVD e ++ EVDs r
def eva (e : EV) : V := .agg [iv e.st, iv e.sq, iv e.ttl, tv e.val, tv e.test, tv e.tick]
def evs (L : List EV) : V := .d (.slice L.length (EVDs L))
theorem EVDs_length (l : List EV) : (EVDs l).length = l.length * 6 := by
  induction l with
  | nil => rfl
  | cons n r ih => simp [EVDs, EVD, ih]; omega
theorem EVDs_append (l m : List EV) : EVDs (l ++ m) = EVDs l ++ EVDs m := by
  induction l with
  | nil => rfl
  | cons n r ih => simp [EVDs, ih]
theorem at_ev {L pre rest : List EV} {x : EV} (h : L = pre ++ x :: rest) :
    ((pre.length : Int) < (L.length : Int)) ∧ pre.length * 6 < L.length * 6 ∧
    (EVDs L).drop (pre.length * 6) = .int .i64 x.st :: .int .i64 x.sq :: .int .i64 x.ttl :: .bool x.val :: .bool x.test :: .bool x.tick :: EVDs rest ∧ pre.length < L.length := by
  subst h
  refine ⟨by simp; omega, by simp, ?_, by simp⟩
  rw [EVDs_append, List.drop_append_of_le_length (by rw [EVDs_length]; omega), List.drop_of_length_le (by rw [EVDs_length]; omega)]
  rfl
def evM (e : EV) : MS := ⟨3, 1 + e.ttl % 4, 0, 0, 0, 1 + e.st % 6, e.sq % 5, e.test, 4, [⟨1, if e.val then 1 else 0, [], 0, 0, 0⟩]⟩
theorem tcEvent (e : EV) : TC Try.prog 20 [eva e] (ma (evM e)) := by
  refine tcW Try.func20 k20 h20 (by simp [c20]) (by simp) [] ?_
  have w1 : w64 (1 + e.st % 6) = 1 + e.st % 6 := w64_of (by omega)
  have w2 : w64 (1 + e.ttl % 4) = 1 + e.ttl % 4 := w64_of (by omega)
  simp only [go_sem, c20, eva]
  refine Wdcall_at (tcWithin14 e.st 6 (by omega)) (by rfl) ?_
  simp only [go_sem, w1]
  refine Wdcall_at (tcWithin14 e.sq 5 (by omega)) (by rfl) ?_
  simp only [go_sem]
  refine Wdcall_at (tcWithin14 e.ttl 4 (by omega)) (by rfl) ?_
  simp only [go_sem, w2]
  refine Wdcall_at (tcTruth e.val) (by rfl) ?_
  simp only [go_sem, va]
  refine ⟨by rfl, ?_⟩
  rfl
def okS (s : SS) : Prop := s.vs.length ≤ 1000 ∧ -9223372036854775808 ≤ s.lost ∧ s.left < 9223372036854775808
theorem okS_take {s : SS} {m : MS} (h : okS s) (hm : m.vs.length ≤ 1000) : okS (takeF s m).1 := by
  obtain ⟨h1, h2, h3⟩ := h
  have d := distF_rng s.st m.st
  have q := distF_rng s.sq m.sq
  have acc : ∀ l, 0 ≤ l → ckM m = 0 → okS (accF s m l) := fun l hl hc => by
    obtain ⟨_, h4, _⟩ := okH_spec (ckM_okH hc)
    exact ⟨hm, by simp only [accF]; omega, by simp only [accF]; omega⟩
  unfold takeF
  split
  · exact ⟨h1, h2, h3⟩
  · rename_i hn
    have hc : ckM m = 0 := by
      by_cases h : ckM m = 0
      · exact h
      · exact absurd (.inl h) hn
    have hsq := okH_spec (ckM_okH hc)
    split
    · exact acc 0 (by omega) hc
    split
    · exact acc 0 (by omega) hc
    split
    · split
      · rename_i hw
        have : 1 ≤ distF s.sq m.sq := by have := hw.1; simp [newerF] at this; exact this.1
        exact acc _ (by omega) hc
      · exact ⟨h1, h2, h3⟩
    · split
      · rename_i hw
        have : 1 ≤ distF s.st m.st := by simp [newerF] at hw; exact hw.1
        exact acc _ (by omega) hc
      · exact ⟨h1, h2, h3⟩
theorem okS_tick {s : SS} (h : okS s) : okS (tickF s) := by
  obtain ⟨h1, h2, h3⟩ := h
  unfold tickF
  split
  · exact ⟨h1, h2, by simp only []; omega⟩
  · exact ⟨h1, h2, h3⟩
theorem okS_new (p r : Int) : okS (newS p r) := by
  unfold okS newS
  simp
theorem tcKnown14 : TC Try.prog 14 [] (tv true) := by
  refine tcW Try.func14 k14 h14 (by simp [c14]) (by simp) [] ?_
  have t1 : takeF (newS 0 0) ⟨0, 2, 0, 0, 0, 1, 0, false, 0, []⟩ = (⟨0, 0, true, 1, 0, 2, 0, false, []⟩, 1) := by decide
  have t2 : takeF ⟨0, 0, true, 1, 0, 0, 0, false, []⟩ ⟨0, 2, 0, 0, 0, 1, 0, false, 0, []⟩ = (⟨0, 0, true, 1, 0, 2, 0, false, []⟩, 5) := by decide
  simp only [go_sem, c14]
  refine Wcall_at (tcNewS 0 0) (by rfl) ?_
  simp only [go_sem]
  refine Wcall_at (tcTake (newS 0 0) ⟨0, 2, 0, 0, 0, 1, 0, false, 0, []⟩ (by decide) (by decide) (by decide)) (by rfl) ?_
  simp only [go_sem, t1, sa, scells, vls]
  refine Wcall_at (tcValid ⟨0, 0, true, 1, 0, 2, 0, false, []⟩) (by rfl) ?_
  have v1 : validF ⟨0, 0, true, 1, 0, 2, 0, false, []⟩ = true := by decide
  simp only [go_sem, v1]
  refine Wcall_at (tcTick ⟨0, 0, true, 1, 0, 2, 0, false, []⟩ (by decide) (by decide)) (by rfl) ?_
  simp only [go_sem]
  refine Wcall_at (tcTick ⟨0, 0, true, 1, 0, 1, 0, false, []⟩ (by decide) (by decide)) (by rfl) ?_
  have k1 : tickF ⟨0, 0, true, 1, 0, 1, 0, false, []⟩ = ⟨0, 0, true, 1, 0, 0, 0, false, []⟩ := by decide
  simp only [go_sem, k1, sa, scells, vls]
  refine Wcall_at (tcTake ⟨0, 0, true, 1, 0, 0, 0, false, []⟩ ⟨0, 2, 0, 0, 0, 1, 0, false, 0, []⟩ (by decide) (by decide) (by decide)) (by rfl) ?_
  simp only [go_sem, t2]
  refine Wcall_at (tcValid ⟨0, 0, true, 1, 0, 0, 0, false, []⟩) (by rfl) ?_
  have v2 : validF ⟨0, 0, true, 1, 0, 0, 0, false, []⟩ = false := by decide
  simp only [go_sem, v2]
theorem evM_vs (e : EV) : (evM e).vs.length = 1 := rfl
theorem evM_s (e : EV) : ∀ v ∈ (evM e).vs, v.s.length ≤ 1099511627776 := by
  intro v hv
  simp [evM] at hv
  subst hv
  simp
theorem tc14Plays (L : List EV) (hL : L.length < 9223372036854775808) : TC Try.prog 3 [evs L] (tv true) := by
  refine tcW Try.func3 k3 h3 (by simp [c3]) (by simp) [] ?_
  simp only [go_sem, c3, evs]
  refine Wcall_some tcKnown14 ?_
  simp only [go_sem]
  refine Wcall_some (tcNewS 3 4) ?_
  simp only [go_sem]
  refine Wcall_some (tcRNewS 3 4) ?_
  simp only [go_sem, sa, scells, vls]
  refine W_loop 120 [.keep 0, .keep 3, .keep 4, .keep 5] (fun m st => ∃ p r s, L = p ++ r ∧ okS s ∧ m = r.length ∧ st = ⟨[(0, evs L), (3, .ptr 104 0), (4, .ptr 112 0), (5, iv p.length)], [(104, .box (scells s)), (112, .box (scells s))], 2168⟩) (by omega) L.length _ (by simp [norm, normGo, boxesBelow, ownIds, adelAll, V.under, St.get, St.obf, aget, adel, evs, scells, vls]) ⟨[], L, newS 3 4, rfl, okS_new 3 4, rfl, rfl⟩ ?_
  rintro m st ⟨p, r, s, hp, hs, rfl, rfl⟩
  have hs' := hs
  obtain ⟨s1, s2, s3⟩ := hs'
  cases r with
  | nil =>
    have hn : ¬ ((p.length : Int) < (L.length : Int)) := by subst hp; simp
    simp only [go_sem, hn, evs]
  | cons x r =>
    obtain ⟨c2, c3, hdrop, hpl⟩ := at_ev hp
    have w5 : w64 ((p.length : Int) + 1) = p.length + 1 := w64_of (by omega)
    by_cases h200 : (p.length : Int) < 200
    rotate_left
    · simp only [go_sem, c2, h200, evs]
    simp only [go_sem, c2, c3, h200, hdrop, evs, EVDs_length]
    cases hx : x.tick
    · simp only [go_sem, c2, c3, hdrop, EVDs_length, scells, vls]
      refine Wdcall_at (tcEvent x) (by simp [eva, hx]) ?_
      simp only [go_sem, ma, mcells, vls]
      refine Wdcall_at (tcTake s (evM x) (by omega) (by rw [evM_vs]; omega) s2) (by rfl) ?_
      simp only [go_sem, sa, scells, vls]
      refine ⟨by rfl, ?_⟩
      simp only [go_sem, c2, c3, hdrop, EVDs_length, scells, vls]
      refine Wdcall_at (tcEvent x) (by simp [eva, hx]) ?_
      simp only [go_sem, ma, mcells, vls]
      refine Wdcall_at (tcTo12 (evM x) (by rw [evM_vs]; omega)) (by rfl) ?_
      simp only [go_sem, ma, mcells, vls]
      refine Wdcall_at (tcRTake s (evM x) (by omega) (by rw [evM_vs]; omega) (evM_s x) s2) (by rfl) ?_
      have ok := okS_take hs (m := evM x) (by rw [evM_vs]; omega)
      simp only [go_sem, sa, scells, vls]
      refine ⟨by rfl, ⟨by rfl, ?_⟩⟩
      refine Wdcall_at (tcTo14 (takeF s (evM x)).1 (by have := ok.1; omega)) (by rfl) ?_
      simp only [go_sem, sa, scells, vls]
      refine Wdcall_at (tcRSameS (takeF s (evM x)).1 (takeF s (evM x)).1 (by have := ok.1; omega) (by have := ok.1; omega)) (by rfl) ?_
      simp only [go_sem, w5, Kloop_norm]
      exact ⟨by rfl, r.length, _, by simp, (by simp [norm, normGo, boxesBelow, ownIds, adelAll, V.under, St.get, St.obf, aget, adel]; rfl), p ++ [x], r, (takeF s (evM x)).1, by simp [hp], ok, rfl, by simp [evs, scells, vls]⟩
    · have ok := okS_tick hs
      simp only [go_sem, c2, c3, hdrop, EVDs_length, scells, vls]
      refine Wdcall_at (tcTick s (by omega) s3) (by rfl) ?_
      simp only [go_sem, sa, scells, vls]
      refine Wdcall_at (tcRTick s s3) (by rfl) ?_
      simp only [go_sem, sa, scells, vls]
      refine ⟨by rfl, ?_⟩
      refine Wdcall_at (tcTo14 (tickF s) (by have := ok.1; omega)) (by rfl) ?_
      simp only [go_sem, sa, scells, vls]
      refine Wdcall_at (tcRSameS (tickF s) (tickF s) (by have := ok.1; omega) (by have := ok.1; omega)) (by rfl) ?_
      simp only [go_sem, w5, Kloop_norm]
      exact ⟨by rfl, r.length, _, by simp, (by simp [norm, normGo, boxesBelow, ownIds, adelAll, V.under, St.get, St.obf, aget, adel]; rfl), p ++ [x], r, tickF s, by simp [hp], ok, rfl, by simp [evs, scells, vls]⟩
end Go.Proofs.Ytokbcminleemaaa.Vc
