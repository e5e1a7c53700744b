/- Publishers, told without a program. -/
import Derived.Test.YtokbcminleemaaaTuA
set_option linter.unusedSimpArgs false
set_option linter.unusedVariables false
set_option linter.unusedSectionVars false
namespace Go.Proofs.Ytokbcminleemaaa.Vc
open Go Go.Vk Go.Tv Go.Proofs
set_option maxRecDepth 100000
set_option maxHeartbeats 4000000
attribute [local go_sem ↓] W_skip W_reg W_draw W_seq W_cond W_block W_exit W_label W_goto W_ret Kseq_norm Kseq_ret Kseq_ex Kseq_go Kseq_pan Kblk_norm Kblk_ret Kblk_self Kblk_ne Kblk_go Kblk_pan Kloop_ret Kloop_ex Kloop_go Kloop_pan KseqS_norm KseqS_ret KseqS_ex KseqS_pan Kend_norm Kend_ret Kend_ex KscS_norm KscS_ret KscS_ex KscS_go Wr_nil Wr_g Wg_11 Wg_00 Wg_10 Wg_01 Wg_skip Wr_call Wr_callv Wr_inv Winv_if Winv2_some Wr_panic Wr_isnil Wr_op Ev_some Wcv_fn Wd_callv Wd_inv Wdcv_fn Wdinv_if Wdinv2_some ifV_agg ifV_int Wnil_some Wpan_if Wcond_t Wcond_f Wd_nil Wd_g Wd_call Wd_op Wdg_11 Wdg_00 Wdg_10 Wdg_01 Wdg_skip Evd_some step_some step_none val_t val_c get_mk obf_mk rdl_nil rdl_cons aget_cons aget_nil
attribute [local go_sem] pl_mv pl_pick pl_box pl_build pl_bsl pl_ld pl_st pl_nilc pl_bin pl_eqb pl_eq pl_eqn pl_un pl_cvi pl_cvs pl_s2b pl_b2s pl_mki pl_mkf pl_mks pl_sl pl_sls pl_fa pl_fld pl_ia pl_iaA pl_ix pl_ixs pl_ta pl_ex pl_len pl_lens pl_mn pl_mx pl_app pl_apps ev aset adel upd Option.getD_some passAll passV List.append_nil reduceIte Nat.reduceEqDiff decide_eq_true_eq Bool.false_eq_true Bool.true_eq_false reduceCtorEq Nat.reduceAdd updf V.sliceOf placeD placeV V.toDs V.toD1 V.cells List.map_cons List.map_nil Nat.mul_one Nat.zero_mul List.length_nil List.length_cons Nat.zero_add List.nil_append true_and and_true and_self Nat.zero_lt_one if_true if_false Nat.reduceLT Nat.reduceLeDiff Nat.reduceMul splice List.take_zero List.drop_zero List.drop_nil Bool.not_true Bool.not_false bne_self_eq_false Bool.bne_true Bool.bne_false Bool.false_bne Bool.true_bne List.cons_append eq_self Option.map_some Option.map_none boundO bound b_and b_or b_add b_sub b_mul b_rem b_eql b_neq b_lss b_leq b_gtr b_geq b_seql b_sneq b_shr8 b_shl8 decide_true decide_false IOp.xs List.flatMap_cons List.flatMap_nil V.ids V.ids1 V.ids0
attribute [local go_sem] Vk.RetB resVs resV outOf Vk.init recvs recvV recv enumFrom
attribute [local go_sem] bs_length NDs_length VLDs_length bs_nil bs_cons bytesOf_bs
attribute [local go_sem] le_1 le_2 le_3 le_4 le_5 le_6 le_7 le_8 le_9 le_10 le_11 le_12 le_o0 ck_bool ck_int ck_str ck_slice ck_ni ck_if ck_nils ck_own nat_nn Int.cast_ofNat_Int datas V.data? eqCells eqD Bool.true_and Bool.false_and List.all_cons List.all_nil Bool.and_true Bool.and_self List.take_succ_cons List.drop_succ_cons List.getElem?_cons_zero List.getElem?_cons_succ Int.toNat_natCast Nat.add_zero Nat.sub_zero
attribute [local go_sem] Int.reduceBEq Int.reduceBNe Int.reduceLT Int.reduceLE Int.reduceGT Int.reduceGE Int.reduceEq Int.reduceNe Int.reduceAdd Int.reduceSub Int.reduceMul Int.reduceToNat beq_self_eq_true bne_self_eq_false Nat.reduceBEq Nat.reduceSub ge_iff_le gt_iff_lt
/-- A publisher that goes on well: its settings, and how far its numbers are. -/
structure GP (P R n : Int) (p : PS) : Prop where
  pub : p.pub = P
  rev : p.rev = R
  first : 1 ≤ p.first ∧ p.first ≤ 100
  max : p.first ≤ p.max ∧ p.max ≤ 1000
  vs : ckVs p.vs = 0
  len : p.vs.length ≤ 24
  tm : ckV ⟨5, 0, [], p.ta, p.tb, p.tc⟩ = 0
  on : p.on = true → (p.first ≤ p.gap ∧ p.gap ≤ p.max) ∧ (0 ≤ p.since ∧ p.since + 1 ≤ p.gap) ∧ (1 ≤ p.st ∧ p.st ≤ n) ∧ (0 ≤ p.sq ∧ p.sq ≤ n)
  off : p.on = false → p.st = 0 ∧ p.sq = 0 ∧ p.since = 0 ∧ p.gap = 0
theorem GP.ok {P R n : Int} {p : PS} (h : GP P R n p) (hn : n ≤ 1000000) : okP p := by
  have h1 := h.first
  have h2 := h.max
  have h3 := h.len
  cases hk : p.on
  · obtain ⟨a, b, c, d⟩ := h.off hk
    exact ⟨by omega, ⟨by omega, by omega⟩, ⟨by omega, by omega⟩, ⟨by omega, by omega⟩, ⟨by omega, by omega⟩, ⟨by omega, by omega⟩, ⟨by omega, by omega⟩⟩
  · obtain ⟨a, b, c, d⟩ := h.on hk
    exact ⟨by omega, ⟨by omega, by omega⟩, ⟨by omega, by omega⟩, ⟨by omega, by omega⟩, ⟨by omega, by omega⟩, ⟨by omega, by omega⟩, ⟨by omega, by omega⟩⟩
theorem GP.mono {P R n m : Int} {p : PS} (h : GP P R n p) (hn : n ≤ m) : GP P R m p :=
  ⟨h.pub, h.rev, h.first, h.max, h.vs, h.len, h.tm, fun hk => by obtain ⟨a, b, c, d⟩ := h.on hk; exact ⟨a, b, by omega, by omega⟩, h.off⟩
/-- What such a publisher sends can be sent. -/
theorem GP.sent {P R n : Int} {p : PS} (h : GP P R n p) (hP : 0 ≤ P ∧ P ≤ 999) (hR : 0 ≤ R ∧ R ≤ 4294967295) (hn : n ≤ 1000000) (hk : p.on = true) : ckM (sentM p) = 0 := by
  obtain ⟨a, b, c, d⟩ := h.on hk
  have h1 := h.first
  have h2 := h.max
  have h3 := h.len
  rw [ckM_eq]
  have e1 : okH (sentM p) = true := by
    have q1 := h.pub
    have q2 := h.rev
    have a1 : 0 ≤ p.pub ∧ p.pub ≤ 999 := by omega
    have a2 : 1 ≤ 3 * p.gap + 1 ∧ 3 * p.gap + 1 ≤ 65535 := by omega
    have a3 : 1 ≤ p.st ∧ p.st ≤ 4294967295 := by omega
    have a4 : 0 ≤ p.sq ∧ p.sq ≤ 4294967295 := by omega
    have a5 : 0 ≤ p.rev ∧ p.rev ≤ 4294967295 := by omega
    simp [okH, sentM, a1, a2, a3, a4, a5]
  have e2 : ckT (sentM p) = 0 := h.tm
  have e3 : ¬ 24 < (sentM p).vs.length := by simp only [sentM]; omega
  rw [if_pos e1, e2, if_neg e3]
  simp only [ne_eq, not_true_eq_false, if_false]
  exact h.vs
theorem GP.change {P R n : Int} {p : PS} (h : GP P R n p) (hn : 0 ≤ n ∧ n ≤ 1000000) {vs : List VL} {a b c : Int} (hv : ckVs vs = 0) (hl : vs.length ≤ 24) (ht : ckV ⟨5, 0, [], a, b, c⟩ = 0) : GP P R (n + 1) (changeP p vs a b c) := by
  have h1 := h.first
  have h2 := h.max
  refine ⟨h.pub, h.rev, h1, h2, hv, hl, ht, fun _ => ⟨by simp only [changeP]; omega, by simp only [changeP]; omega, ?_, by simp only [changeP]; omega⟩, fun hk => by simp [changeP] at hk⟩
  simp only [changeP]
  cases hk : p.on
  · simp; omega
  · obtain ⟨_, _, c, _⟩ := h.on hk
    simp only [if_true, afterF, mostN, show ¬ p.st = 4294967295 from by omega, if_false]
    omega
theorem GP.again {P R n : Int} {p : PS} (h : GP P R n p) (hn : 0 ≤ n ∧ n ≤ 1000000) (hk : p.on = true) : GP P R (n + 1) (repeatP p) := by
  obtain ⟨a, b, c, d⟩ := h.on hk
  have h1 := h.first
  have h2 := h.max
  refine ⟨h.pub, h.rev, h1, h2, h.vs, h.len, h.tm, fun _ => ⟨by simp only [repeatP]; omega, by simp only [repeatP]; omega, by simp only [repeatP]; omega, ?_⟩, fun hk' => by simp [repeatP, hk] at hk'⟩
  simp only [repeatP, afterF, mostN, show ¬ p.sq = 4294967295 from by omega, if_false]
  omega
theorem GP.wait {P R n : Int} {p : PS} (h : GP P R n p) (hk : p.on = true) (hg : ¬ p.since + 1 = p.gap) : GP P R n { p with since := p.since + 1 } := by
  obtain ⟨a, b, c, d⟩ := h.on hk
  exact ⟨h.pub, h.rev, h.first, h.max, h.vs, h.len, h.tm, fun _ => ⟨a, ⟨by simp only []; omega, by simp only []; omega⟩, c, d⟩, fun hk' => by simp [hk] at hk'⟩
/-- One step of such a publisher. -/
theorem GP.step {P R n : Int} {p : PS} (h : GP P R n p) (hP : 0 ≤ P ∧ P ≤ 999) (hR : 0 ≤ R ∧ R ≤ 4294967295) (hn : 0 ≤ n ∧ n < 1000000) {vs : List VL} {a b c : Int} (hv : ckVs vs = 0) (hl : vs.length ≤ 24) (ht : ckV ⟨5, 0, [], a, b, c⟩ = 0) :
    ((p.on = false ∨ vs ≠ p.vs) ∧ stepF p vs a b c = (changeP p vs a b c, some (sentM (changeP p vs a b c))) ∧ GP P R (n + 1) (changeP p vs a b c) ∧ ckM (sentM (changeP p vs a b c)) = 0) ∨
    (p.on = true ∧ vs = p.vs ∧ p.since + 1 = p.gap ∧ stepF p vs a b c = (repeatP p, some (sentM (repeatP p))) ∧ GP P R (n + 1) (repeatP p) ∧ ckM (sentM (repeatP p)) = 0) ∨
    (p.on = true ∧ vs = p.vs ∧ ¬ p.since + 1 = p.gap ∧ stepF p vs a b c = ({ p with since := p.since + 1 }, none) ∧ GP P R n { p with since := p.since + 1 }) := by
  by_cases hc : p.on = false ∨ vs ≠ p.vs
  · have ha : actF p vs = 1 := by unfold actF; rw [if_pos hc]
    have hg := h.change (by omega) hv hl ht
    have hs := hg.sent hP hR (by omega) rfl
    refine .inl ⟨hc, ?_, hg, hs⟩
    unfold stepF
    rw [if_neg (by omega)]
    simp only [ha, if_true]
    rw [if_pos hs]
  · have hk : p.on = true := by cases hk : p.on <;> simp_all
    have hvs : vs = p.vs := Decidable.byContradiction fun h => hc (.inr h)
    by_cases hg : p.since + 1 = p.gap
    · have ha : actF p vs = 2 := by unfold actF; rw [if_neg hc, if_pos hg]
      have hG := h.again (by omega) hk
      have hs := hG.sent hP hR (by omega) (by simpa [repeatP] using hk)
      refine .inr (.inl ⟨hk, hvs, hg, ?_, hG, hs⟩)
      unfold stepF
      rw [if_neg (by omega)]
      simp only [ha, show ¬ (2 : Int) = 1 from by omega, if_false]
      rw [if_pos hs]
    · have ha : actF p vs = 0 := by unfold actF; rw [if_neg hc, if_neg hg]
      refine .inr (.inr ⟨hk, hvs, hg, ?_, h.wait hk hg⟩)
      unfold stepF
      rw [if_pos ha]
theorem GP.new {P R f m : Int} (hP : 0 ≤ P ∧ P ≤ 999) (hR : 0 ≤ R ∧ R ≤ 4294967295) (hf : 1 ≤ f ∧ f ≤ 100) (hm : f ≤ m ∧ m ≤ 1000) : newP P f m R = (⟨P, f, m, R, false, 0, 0, 0, 0, 0, 0, 0, []⟩, 0) ∧ GP P R 0 ⟨P, f, m, R, false, 0, 0, 0, 0, 0, 0, 0, []⟩ := by
  refine ⟨?_, ⟨rfl, rfl, hf, hm, rfl, by simp, (by show ckV ⟨5, 0, [], 0, 0, 0⟩ = 0; decide), fun h => by simp at h, fun _ => ⟨rfl, rfl, rfl, rfl⟩⟩⟩
  unfold newP mostN
  rw [if_pos (by omega)]
theorem valsF_ok (w : Int) : ckVs (valsF w) = 0 ∧ (valsF w).length ≤ 24 := by
  unfold valsF
  split
  · decide
  split <;> decide
theorem valsF_inj {a b : Int} (ha : 0 ≤ a ∧ a < 3) (hb : 0 ≤ b ∧ b < 3) (h : valsF a = valsF b) : a = b := by
  have ha' : a = 0 ∨ a = 1 ∨ a = 2 := by omega
  have hb' : b = 0 ∨ b = 1 ∨ b = 2 := by omega
  rcases ha' with rfl | rfl | rfl <;> rcases hb' with rfl | rfl | rfl <;> first | rfl | (exact absurd h (by decide))
theorem ckT_of {a : Int} (h : 0 ≤ a ∧ a < 4294967296) : ckV ⟨5, 0, [], a, 0, 0⟩ = 0 := by
  simp [ckV, confl, inR, h.1, h.2]
/-- The lowest 32 bits. -/
theorem band32 (n : Int) (h : -9223372036854775808 ≤ n ∧ n < 9223372036854775808) : 0 ≤ band n 4294967295 ∧ band n 4294967295 < 4294967296 := by
  unfold band
  have h1 : (BitVec.ofInt IntKind.i64.bits n &&& BitVec.ofInt IntKind.i64.bits 4294967295).toNat ≤ 4294967295 := by
    rw [BitVec.toNat_and]
    exact Nat.and_le_right
  have h2 : IntKind.i64.wrap (((BitVec.ofInt IntKind.i64.bits n &&& BitVec.ofInt IntKind.i64.bits 4294967295).toNat : Nat) : Int) = ((BitVec.ofInt IntKind.i64.bits n &&& BitVec.ofInt IntKind.i64.bits 4294967295).toNat : Nat) := w64_of (by omega)
  rw [h2]
  omega
end Go.Proofs.Ytokbcminleemaaa.Vc
