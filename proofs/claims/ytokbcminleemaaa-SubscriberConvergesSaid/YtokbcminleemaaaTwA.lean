/- A publisher and a subscriber together. -/
import Derived.Test.YtokbcminleemaaaTsE
import Derived.Test.YtokbcminleemaaaTuD
set_option linter.unusedSimpArgs false
set_option linter.unusedVariables false
set_option linter.unusedSectionVars false
namespace Go.Proofs.Ytokbcminleemaaa.Vc
open Go Go.Vk Go.Tv Go.Proofs
set_option maxRecDepth 100000
set_option maxHeartbeats 4000000
attribute [local go_sem ↓] W_skip W_reg W_draw W_seq W_cond W_block W_exit W_label W_goto W_ret Kseq_norm Kseq_ret Kseq_ex Kseq_go Kseq_pan Kblk_norm Kblk_ret Kblk_self Kblk_ne Kblk_go Kblk_pan Kloop_ret Kloop_ex Kloop_go Kloop_pan KseqS_norm KseqS_ret KseqS_ex KseqS_pan Kend_norm Kend_ret Kend_ex KscS_norm KscS_ret KscS_ex KscS_go Wr_nil Wr_g Wg_11 Wg_00 Wg_10 Wg_01 Wg_skip Wr_call Wr_callv Wr_inv Winv_if Winv2_some Wr_panic Wr_isnil Wr_op Ev_some Wcv_fn Wd_callv Wd_inv Wdcv_fn Wdinv_if Wdinv2_some ifV_agg ifV_int Wnil_some Wpan_if Wcond_t Wcond_f Wd_nil Wd_g Wd_call Wd_op Wdg_11 Wdg_00 Wdg_10 Wdg_01 Wdg_skip Evd_some step_some step_none val_t val_c get_mk obf_mk rdl_nil rdl_cons aget_cons aget_nil
attribute [local go_sem] pl_mv pl_pick pl_box pl_build pl_bsl pl_ld pl_st pl_nilc pl_bin pl_eqb pl_eq pl_eqn pl_un pl_cvi pl_cvs pl_s2b pl_b2s pl_mki pl_mkf pl_mks pl_sl pl_sls pl_fa pl_fld pl_ia pl_iaA pl_ix pl_ixs pl_ta pl_ex pl_len pl_lens pl_mn pl_mx pl_app pl_apps ev aset adel upd Option.getD_some passAll passV List.append_nil reduceIte Nat.reduceEqDiff decide_eq_true_eq Bool.false_eq_true Bool.true_eq_false reduceCtorEq Nat.reduceAdd updf V.sliceOf placeD placeV V.toDs V.toD1 V.cells List.map_cons List.map_nil Nat.mul_one Nat.zero_mul List.length_nil List.length_cons Nat.zero_add List.nil_append true_and and_true and_self Nat.zero_lt_one if_true if_false Nat.reduceLT Nat.reduceLeDiff Nat.reduceMul splice List.take_zero List.drop_zero List.drop_nil Bool.not_true Bool.not_false bne_self_eq_false Bool.bne_true Bool.bne_false Bool.false_bne Bool.true_bne List.cons_append eq_self Option.map_some Option.map_none boundO bound b_and b_or b_add b_sub b_mul b_rem b_eql b_neq b_lss b_leq b_gtr b_geq b_seql b_sneq b_shr8 b_shl8 decide_true decide_false IOp.xs List.flatMap_cons List.flatMap_nil V.ids V.ids1 V.ids0
attribute [local go_sem] Vk.RetB resVs resV outOf Vk.init recvs recvV recv enumFrom
attribute [local go_sem] bs_length NDs_length VLDs_length bs_nil bs_cons bytesOf_bs
attribute [local go_sem] le_1 le_2 le_3 le_4 le_5 le_6 le_7 le_8 le_9 le_10 le_11 le_12 le_o0 ck_bool ck_int ck_str ck_slice ck_ni ck_if ck_nils ck_own nat_nn Int.cast_ofNat_Int datas V.data? eqCells eqD Bool.true_and Bool.false_and List.all_cons List.all_nil Bool.and_true Bool.and_self List.take_succ_cons List.drop_succ_cons List.getElem?_cons_zero List.getElem?_cons_succ Int.toNat_natCast Nat.add_zero Nat.sub_zero
attribute [local go_sem] Int.reduceBEq Int.reduceBNe Int.reduceLT Int.reduceLE Int.reduceGT Int.reduceGE Int.reduceEq Int.reduceNe Int.reduceAdd Int.reduceSub Int.reduceMul Int.reduceToNat beq_self_eq_true bne_self_eq_false Nat.reduceBEq Nat.reduceSub ge_iff_le gt_iff_lt
/-- One step of a publisher, and one of a subscriber that receives the message if it is not lost. -/
def recvF (s : SS) (o : Option MS) (lost : Bool) : SS := match o with
  | some m => if lost = true then s else (takeF s m).1
  | none => s
def sendF (p : PS) (s : SS) (w : Int) (lost : Bool) : PS × SS := ((stepF p (valsF w) 0 0 0).1, recvF (tickF s) (stepF p (valsF w) 0 0 0).2 lost)
theorem tcSend (p : PS) (s : SS) (w : Int) (lost : Bool) (hp : okP p) (hs : okS s) (hm : ∀ m, (stepF p (valsF w) 0 0 0).2 = some m → m.vs.length ≤ 1000) : TC Try.prog 41 [pa p, sa s, iv w, tv lost] (.tup [pa (sendF p s w lost).1, sa (sendF p s w lost).2]) := by
  refine tcW Try.func41 k41 h41 (by simp [c41]) (by simp) [] ?_
  obtain ⟨s1, s2, s3⟩ := hs
  have ok1 := okS_tick (s := s) ⟨s1, s2, s3⟩
  obtain ⟨t1, t2, t3⟩ := ok1
  obtain ⟨v1, v2⟩ := valsF_ok w
  simp only [go_sem, c41, pa, pcells, sa, scells, vls]
  refine Wcall_at (tcTick s (by omega) s3) (by rfl) ?_
  simp only [go_sem, sa, scells, vls]
  refine Wdcall_at (tcValues w) (by rfl) ?_
  simp only [go_sem, vls]
  refine Wdcall_at (tcStep p (valsF w) 0 0 0 hp (by omega)) (by rfl) ?_
  cases ho : (stepF p (valsF w) 0 0 0).2 with
  | none =>
    have e : sendF p s w lost = ((stepF p (valsF w) 0 0 0).1, tickF s) := by unfold sendF; rw [ho]; rfl
    simp only [go_sem, pa, pcells, vls, msV, e]
    refine ⟨by rfl, ?_⟩
    first | exact ⟨by rfl, by rfl⟩ | rfl
  | some m =>
    have hml := hm m ho
    simp only [go_sem, pa, pcells, vls, msV, mD]
    refine ⟨by rfl, ?_⟩
    cases lost
    · have e : sendF p s w false = ((stepF p (valsF w) 0 0 0).1, (takeF (tickF s) m).1) := by unfold sendF; rw [ho]; rfl
      simp only [go_sem]
      refine Wdcall_at (tcTake (tickF s) m (by omega) (by omega) t2) (by rfl) ?_
      simp only [go_sem, sa, scells, vls, e]
      refine ⟨by rfl, ?_⟩
      first | exact ⟨by rfl, by rfl⟩ | rfl
    · have e : sendF p s w true = ((stepF p (valsF w) 0 0 0).1, tickF s) := by unfold sendF; rw [ho]; rfl
      simp only [go_sem, sa, scells, vls, e]
      first | exact ⟨by rfl, by rfl⟩ | rfl
/-- The subscriber has what the publisher has sent last; so many are counted as lost. -/
def SyL (l : Int) (p : PS) (s : SS) : Prop := (p.on = false ∧ l = 0 ∧ s = newS 3 4) ∨ (p.on = true ∧ s = ⟨3, 4, true, p.st, p.sq, 3 * p.gap + 1 - p.since, l, false, p.vs⟩)
theorem dist_one {a : Int} (h : 0 ≤ a ∧ a ≤ 1000000) (d : Int) (hd : 0 ≤ d ∧ d ≤ 1000000) : distF a (a + d) = d := by
  unfold distF mostN
  rw [show a + d - a = d by omega, Int.emod_eq_of_lt (by omega) (by omega)]
theorem dist_le {a b : Int} (h : 0 ≤ a ∧ a ≤ b) (hb : b ≤ 1000000) : distF a b = b - a := by
  have := dist_one (a := a) (by omega) (b - a) (by omega)
  rwa [show a + (b - a) = b by omega] at this
/-- A message of a new state. -/
theorem take_change {s : SS} {m : MS} (hc : ckM m = 0) (hp : m.pub = s.pub) (hr : m.rev = s.rev) (hk : s.kn = true) (hl : 1 ≤ s.left) (h0 : 0 ≤ s.st ∧ s.st < m.st) (h1 : m.st ≤ 1000000) : takeF s m = (accF s m (m.st - s.st - 1 + m.sq), 2) := by
  have hd : distF s.st m.st = m.st - s.st := dist_le (by omega) h1
  unfold takeF
  rw [if_neg (not_foreign hc hp hr), if_neg (by simp [hk]), if_neg (by omega), if_neg (by omega), hd, if_pos (by simp [newerF]; omega)]
theorem take_repeat {s : SS} {m : MS} (hc : ckM m = 0) (hp : m.pub = s.pub) (hr : m.rev = s.rev) (hk : s.kn = true) (hl : 1 ≤ s.left) (hst : m.st = s.st) (h0 : 0 ≤ s.sq ∧ s.sq < m.sq) (h1 : m.sq ≤ 1000000) (ht : m.te = s.te) (hv : m.vs = s.vs) : takeF s m = (accF s m (m.sq - s.sq - 1), 3) := by
  have hd : distF s.sq m.sq = m.sq - s.sq := dist_le (by omega) h1
  unfold takeF
  rw [if_neg (not_foreign hc hp hr), if_neg (by simp [hk]), if_neg (by omega), if_pos hst, hd, if_pos ⟨by simp [newerF]; omega, ht, hv⟩]
theorem take_first {s : SS} {m : MS} (hc : ckM m = 0) (hp : m.pub = s.pub) (hr : m.rev = s.rev) (hk : s.kn = false) : takeF s m = (accF s m 0, 1) := by
  unfold takeF
  rw [if_neg (not_foreign hc hp hr), if_pos hk]
theorem take_restart {s : SS} {m : MS} (hc : ckM m = 0) (hp : m.pub = s.pub) (hr : m.rev = s.rev) (hk : s.kn = true) (hl : s.left < 1) : takeF s m = (accF s m 0, 5) := by
  unfold takeF
  rw [if_neg (not_foreign hc hp hr), if_neg (by simp [hk]), if_pos hl]
/-- What a step sends, and how the publisher then stands. -/
theorem step_send {n : Int} {p : PS} (hG : GP 3 4 n p) (hn : 0 ≤ n ∧ n < 1000000) (w : Int) :
    (∃ p', (p.on = false ∨ valsF w ≠ p.vs) ∧ p' = changeP p (valsF w) 0 0 0 ∧ stepF p (valsF w) 0 0 0 = (p', some (sentM p')) ∧ GP 3 4 (n + 1) p' ∧ ckM (sentM p') = 0 ∧ p'.on = true ∧ p'.vs = valsF w ∧ p'.st = p.st + 1 ∧ p'.sq = 0 ∧ p'.since = 0 ∧ p'.gap = p.first) ∨
    (∃ p', p.on = true ∧ valsF w = p.vs ∧ p.since + 1 = p.gap ∧ p' = repeatP p ∧ stepF p (valsF w) 0 0 0 = (p', some (sentM p')) ∧ GP 3 4 (n + 1) p' ∧ ckM (sentM p') = 0 ∧ p'.on = true ∧ p'.vs = valsF w ∧ p'.st = p.st ∧ p'.sq = p.sq + 1 ∧ p'.since = 0 ∧ p'.gap = min (2 * p.gap) p.max) ∨
    (∃ p', p.on = true ∧ valsF w = p.vs ∧ p.since + 1 < p.gap ∧ p' = { p with since := p.since + 1 } ∧ stepF p (valsF w) 0 0 0 = (p', none) ∧ GP 3 4 (n + 1) p' ∧ p'.on = true ∧ p'.vs = valsF w ∧ p'.st = p.st ∧ p'.sq = p.sq ∧ p'.since = p.since + 1 ∧ p'.gap = p.gap) := by
  obtain ⟨v1, v2⟩ := valsF_ok w
  rcases hG.step (by omega) (by omega) (by omega) (a := 0) (b := 0) (c := 0) v1 v2 (by decide) with ⟨hc, he, hG', hm⟩ | ⟨hon, hvs, hg, he, hG', hm⟩ | ⟨hon, hvs, hg, he, hG'⟩
  · refine .inl ⟨_, hc, rfl, he, hG', hm, rfl, rfl, ?_, rfl, rfl, rfl⟩
    simp only [changeP]
    cases hk : p.on
    · have := (hG.off hk).1; simp [this]
    · obtain ⟨_, _, c, _⟩ := hG.on hk
      simp only [if_true, afterF, mostN, show ¬ p.st = 4294967295 from by omega, if_false]
  · obtain ⟨_, _, _, d⟩ := hG.on hon
    refine .inr (.inl ⟨_, hon, hvs, hg, rfl, he, hG', hm, by simpa [repeatP] using hon, by simpa [repeatP] using hvs.symm, rfl, ?_, rfl, rfl⟩)
    simp only [repeatP, afterF, mostN, show ¬ p.sq = 4294967295 from by omega, if_false]
  · obtain ⟨_, b, _, _⟩ := hG.on hon
    exact .inr (.inr ⟨_, hon, hvs, by omega, rfl, he, hG'.mono (by omega), hon, hvs.symm, rfl, rfl, rfl, rfl⟩)
/-- Everything arrives: in step they stay. -/
theorem SyL.next {n l : Int} {p : PS} {s : SS} (hG : GP 3 4 n p) (hn : 0 ≤ n ∧ n < 1000000) (h : SyL l p s) (hl : 0 ≤ l ∧ l ≤ 1000) (w : Int) :
    SyL l (sendF p s w false).1 (sendF p s w false).2 ∧ GP 3 4 (n + 1) (sendF p s w false).1 ∧ (sendF p s w false).1.on = true ∧ (sendF p s w false).1.vs = valsF w := by
  have f1 := hG.first
  have f2 := hG.max
  rcases step_send hG hn w with ⟨p', hc, hp', he, hG', hm, hon, hvs, hst, hsq, hsi, hga⟩ | ⟨p', hon0, hv0, hg, hp', he, hG', hm, hon, hvs, hst, hsq, hsi, hga⟩ | ⟨p', hon0, hv0, hg, hp', he, hG', hon, hvs, hst, hsq, hsi, hga⟩
  · have e1 : sendF p s w false = (p', (takeF (tickF s) (sentM p')).1) := by unfold sendF; rw [he]; rfl
    rw [e1]
    refine ⟨.inr ⟨hon, ?_⟩, hG', hon, hvs⟩
    have hpub : (sentM p').pub = 3 := hG'.pub
    have hrev : (sentM p').rev = 4 := hG'.rev
    rcases h with ⟨h1, h2, h3⟩ | ⟨h1, h3⟩
    · subst h3; subst h2
      have : tickF (newS 3 4) = newS 3 4 := by decide
      rw [this, take_first hm hpub hrev rfl]
      simp only [accF, sentM, newS, hsi]
      simp <;> omega
    · obtain ⟨a, b, c, d⟩ := hG.on h1
      subst h3
      have ht : tickF ⟨3, 4, true, p.st, p.sq, 3 * p.gap + 1 - p.since, l, false, p.vs⟩ = ⟨3, 4, true, p.st, p.sq, 3 * p.gap + 1 - p.since - 1, l, false, p.vs⟩ := by
        unfold tickF; rw [if_pos (by simp only []; omega)]
      rw [ht, take_change hm hpub hrev rfl (by simp only []; omega) (by show 0 ≤ p.st ∧ p.st < p'.st; omega) (by show p'.st ≤ 1000000; omega)]
      simp only [accF, sentM, hst, hsq, hsi, hga]
      simp
      omega
  · have e1 : sendF p s w false = (p', (takeF (tickF s) (sentM p')).1) := by unfold sendF; rw [he]; rfl
    rw [e1]
    refine ⟨.inr ⟨hon, ?_⟩, hG', hon, hvs⟩
    have hpub : (sentM p').pub = 3 := hG'.pub
    have hrev : (sentM p').rev = 4 := hG'.rev
    rcases h with ⟨h1, h2, h3⟩ | ⟨h1, h3⟩
    · rw [h1] at hon0; cases hon0
    · obtain ⟨a, b, c, d⟩ := hG.on h1
      subst h3
      have ht : tickF ⟨3, 4, true, p.st, p.sq, 3 * p.gap + 1 - p.since, l, false, p.vs⟩ = ⟨3, 4, true, p.st, p.sq, 3 * p.gap + 1 - p.since - 1, l, false, p.vs⟩ := by
        unfold tickF; rw [if_pos (by simp only []; omega)]
      rw [ht, take_repeat (s := ⟨3, 4, true, p.st, p.sq, 3 * p.gap + 1 - p.since - 1, l, false, p.vs⟩) (m := sentM p') hm hpub hrev rfl (by simp only []; omega) hst (by show 0 ≤ p.sq ∧ p.sq < p'.sq; omega) (by show p'.sq ≤ 1000000; omega) rfl (by show p'.vs = p.vs; rw [hvs, hv0])]
      simp only [accF, sentM, hst, hsq, hsi, hga]
      simp
      omega
  · have e1 : sendF p s w false = (p', tickF s) := by unfold sendF; rw [he]; rfl
    rw [e1]
    refine ⟨.inr ⟨hon, ?_⟩, hG', hon, hvs⟩
    rcases h with ⟨h1, h2, h3⟩ | ⟨h1, h3⟩
    · rw [h1] at hon0; cases hon0
    · obtain ⟨a, b, c, d⟩ := hG.on h1
      subst h3
      unfold tickF
      rw [if_pos (by simp only []; omega)]
      simp only [hst, hsq, hsi, hga, hvs, hv0]
      simp
      omega
theorem SyL.ok {n l : Int} {p : PS} {s : SS} (hG : GP 3 4 n p) (h : SyL l p s) (hl : 0 ≤ l ∧ l ≤ 1000) : okS s := by
  rcases h with ⟨h1, h2, rfl⟩ | ⟨h1, rfl⟩
  · exact okS_new 3 4
  · obtain ⟨a, b, c, d⟩ := hG.on h1
    have f2 := hG.max
    have f3 := hG.len
    exact ⟨by simp only []; omega, by simp only []; omega, by simp only []; omega⟩
theorem SyL.valid {n l : Int} {p : PS} {s : SS} (hG : GP 3 4 n p) (h : SyL l p s) (hon : p.on = true) : validF s = true ∧ s.lost = l ∧ s.vs = p.vs := by
  rcases h with ⟨h1, _⟩ | ⟨h1, rfl⟩
  · rw [h1] at hon; cases hon
  · obtain ⟨a, b, c, d⟩ := hG.on h1
    refine ⟨?_, rfl, rfl⟩
    simp [validF]
    omega
theorem step_len {n : Int} {p : PS} (hG : GP 3 4 n p) (hn : 0 ≤ n ∧ n < 1000000) (w : Int) : ∀ m, (stepF p (valsF w) 0 0 0).2 = some m → m.vs.length ≤ 1000 := by
  intro m hm
  obtain ⟨v1, v2⟩ := valsF_ok w
  rcases step_send hG hn w with ⟨p', _, _, he, _, _, _, hvs, _⟩ | ⟨p', _, _, _, _, he, _, _, _, hvs, _⟩ | ⟨p', _, _, _, _, he, _⟩
  · rw [he] at hm; simp at hm; subst hm; show p'.vs.length ≤ 1000; rw [hvs]; omega
  · rw [he] at hm; simp at hm; subst hm; show p'.vs.length ≤ 1000; rw [hvs]; omega
  · rw [he] at hm; simp at hm
end Go.Proofs.Ytokbcminleemaaa.Vc
