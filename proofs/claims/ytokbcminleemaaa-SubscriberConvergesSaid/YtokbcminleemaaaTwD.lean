/- Laws of subscribers: converges. -/
import Derived.Test.YtokbcminleemaaaTwA
set_option linter.unusedSimpArgs false
set_option linter.unusedVariables false
set_option linter.unusedSectionVars false
namespace Go.Proofs.Ytokbcminleemaaa.Vc
open Go Go.Vk Go.Tv Go.Proofs
set_option maxRecDepth 100000
set_option maxHeartbeats 4000000
attribute [local go_sem ↓] W_skip W_reg W_draw W_seq W_cond W_block W_exit W_label W_goto W_ret Kseq_norm Kseq_ret Kseq_ex Kseq_go Kseq_pan Kblk_norm Kblk_ret Kblk_self Kblk_ne Kblk_go Kblk_pan Kloop_ret Kloop_ex Kloop_go Kloop_pan KseqS_norm KseqS_ret KseqS_ex KseqS_pan Kend_norm Kend_ret Kend_ex KscS_norm KscS_ret KscS_ex KscS_go Wr_nil Wr_g Wg_11 Wg_00 Wg_10 Wg_01 Wg_skip Wr_call Wr_callv Wr_inv Winv_if Winv2_some Wr_panic Wr_isnil Wr_op Ev_some Wcv_fn Wd_callv Wd_inv Wdcv_fn Wdinv_if Wdinv2_some ifV_agg ifV_int Wnil_some Wpan_if Wcond_t Wcond_f Wd_nil Wd_g Wd_call Wd_op Wdg_11 Wdg_00 Wdg_10 Wdg_01 Wdg_skip Evd_some step_some step_none val_t val_c get_mk obf_mk rdl_nil rdl_cons aget_cons aget_nil
attribute [local go_sem] pl_mv pl_pick pl_box pl_build pl_bsl pl_ld pl_st pl_nilc pl_bin pl_eqb pl_eq pl_eqn pl_un pl_cvi pl_cvs pl_s2b pl_b2s pl_mki pl_mkf pl_mks pl_sl pl_sls pl_fa pl_fld pl_ia pl_iaA pl_ix pl_ixs pl_ta pl_ex pl_len pl_lens pl_mn pl_mx pl_app pl_apps ev aset adel upd Option.getD_some passAll passV List.append_nil reduceIte Nat.reduceEqDiff decide_eq_true_eq Bool.false_eq_true Bool.true_eq_false reduceCtorEq Nat.reduceAdd updf V.sliceOf placeD placeV V.toDs V.toD1 V.cells List.map_cons List.map_nil Nat.mul_one Nat.zero_mul List.length_nil List.length_cons Nat.zero_add List.nil_append true_and and_true and_self Nat.zero_lt_one if_true if_false Nat.reduceLT Nat.reduceLeDiff Nat.reduceMul splice List.take_zero List.drop_zero List.drop_nil Bool.not_true Bool.not_false bne_self_eq_false Bool.bne_true Bool.bne_false Bool.false_bne Bool.true_bne List.cons_append eq_self Option.map_some Option.map_none boundO bound b_and b_or b_add b_sub b_mul b_rem b_eql b_neq b_lss b_leq b_gtr b_geq b_seql b_sneq b_shr8 b_shl8 decide_true decide_false IOp.xs List.flatMap_cons List.flatMap_nil V.ids V.ids1 V.ids0
attribute [local go_sem] Vk.RetB resVs resV outOf Vk.init recvs recvV recv enumFrom
attribute [local go_sem] bs_length NDs_length VLDs_length bs_nil bs_cons bytesOf_bs
attribute [local go_sem] le_1 le_2 le_3 le_4 le_5 le_6 le_7 le_8 le_9 le_10 le_11 le_12 le_o0 ck_bool ck_int ck_str ck_slice ck_ni ck_if ck_nils ck_own nat_nn Int.cast_ofNat_Int datas V.data? eqCells eqD Bool.true_and Bool.false_and List.all_cons List.all_nil Bool.and_true Bool.and_self List.take_succ_cons List.drop_succ_cons List.getElem?_cons_zero List.getElem?_cons_succ Int.toNat_natCast Nat.add_zero Nat.sub_zero
attribute [local go_sem] Int.reduceBEq Int.reduceBNe Int.reduceLT Int.reduceLE Int.reduceGT Int.reduceGE Int.reduceEq Int.reduceNe Int.reduceAdd Int.reduceSub Int.reduceMul Int.reduceToNat beq_self_eq_true bne_self_eq_false Nat.reduceBEq Nat.reduceSub ge_iff_le gt_iff_lt
/-- Whatever was lost: what the subscriber knows of the publisher. -/
def Cv (p : PS) (s : SS) : Prop := s.pub = 3 ∧ s.rev = 4 ∧ s.te = false ∧ s.left ≤ 25 ∧ okS s ∧ (s.kn = true → p.on = true ∧ (1 ≤ s.st ∧ s.st ≤ p.st) ∧ 0 ≤ s.sq ∧ (s.st = p.st → s.sq ≤ p.sq ∧ s.vs = p.vs))
/-- It has what was sent last. -/
def Cs (p : PS) (s : SS) : Prop := Cv p s ∧ p.on = true ∧ s.kn = true ∧ s.st = p.st ∧ s.sq = p.sq ∧ s.left = 3 * p.gap + 1 - p.since
theorem Cv.tick {p : PS} {s : SS} (h : Cv p s) : Cv p (tickF s) := by
  obtain ⟨h1, h2, h3, h4, h5, h6⟩ := h
  refine ⟨(tickF_pub s).1.trans h1, (tickF_pub s).2.trans h2, ?_, ?_, okS_tick h5, ?_⟩
  · unfold tickF; split <;> exact h3
  · unfold tickF; split
    · simp only []; omega
    · exact h4
  · unfold tickF; split <;> exact h6
theorem Cv.acc {p : PS} {s : SS} (h : Cv p s) {p' : PS} (l : Int) (hl : 0 ≤ l ∧ l ≤ 4000000) (h0 : p'.since = 0) (hg : 1 ≤ p'.gap ∧ p'.gap ≤ 8) (hst : 1 ≤ p'.st) (hsq : 0 ≤ p'.sq) (hon : p'.on = true) (hvl : p'.vs.length ≤ 1000) : Cs p' (accF s (sentM p') l) := by
  obtain ⟨h1, h2, h3, h4, h5, h6⟩ := h
  refine ⟨⟨h1, h2, rfl, ?_, ⟨hvl, ?_, ?_⟩, fun _ => ⟨hon, ⟨hst, Int.le_refl _⟩, hsq, fun _ => ⟨Int.le_refl _, rfl⟩⟩⟩, hon, rfl, rfl, rfl, ?_⟩
  · simp only [accF, sentM]; omega
  · have := h5.2.1; simp only [accF]; omega
  · simp only [accF, sentM]; omega
  · simp only [accF, sentM, h0]; omega
/-- One step, the message lost or not. -/
theorem Cv.next {n : Int} {p : PS} {s : SS} (hG : GP 3 4 n p) (hn : 0 ≤ n ∧ n < 1000) (hmax : p.max ≤ 8) (h : Cv p s) (w : Int) (lost : Bool) :
    GP 3 4 (n + 1) (sendF p s w lost).1 ∧ (sendF p s w lost).1.max = p.max ∧ (sendF p s w lost).1.on = true ∧ (sendF p s w lost).1.vs = valsF w ∧ Cv (sendF p s w lost).1 (sendF p s w lost).2 ∧
      (lost = false → (Cs (sendF p s w lost).1 (sendF p s w lost).2 ∨ ((sendF p s w lost).1.gap = p.gap ∧ (sendF p s w lost).1.since = p.since + 1 ∧ p.on = true))) ∧ (lost = false → Cs p s → valsF w = p.vs → Cs (sendF p s w lost).1 (sendF p s w lost).2) := by
  have f1 := hG.first
  have f2 := hG.max
  have ht := h.tick
  obtain ⟨v1, v2⟩ := valsF_ok w
  have hlt : (tickF s).kn = s.kn ∧ (tickF s).st = s.st ∧ (tickF s).sq = s.sq ∧ (tickF s).vs = s.vs := by unfold tickF; split <;> exact ⟨rfl, rfl, rfl, rfl⟩
  obtain ⟨k1, k2, k3, k4⟩ := hlt
  rcases step_send hG (by omega) w with ⟨p', hc, hp', he, hG', hm, hon, hvs, hst, hsq, hsi, hga⟩ | ⟨p', hon0, hv0, hg, hp', he, hG', hm, hon, hvs, hst, hsq, hsi, hga⟩ | ⟨p', hon0, hv0, hg, hp', he, hG', hon, hvs, hst, hsq, hsi, hga⟩
  · have hmx : p'.max = p.max := by rw [hp']; rfl
    have hp0 : 0 ≤ p.st := by
      cases hk : p.on
      · have := (hG.off hk).1; omega
      · obtain ⟨_, _, c, _⟩ := hG.on hk; omega
    have hpn : p.st ≤ 1000 := by
      cases hk : p.on
      · have := (hG.off hk).1; omega
      · obtain ⟨_, _, c, _⟩ := hG.on hk; omega
    have hvl : p'.vs.length ≤ 1000 := by rw [hvs]; omega
    have hpub : (sentM p').pub = (tickF s).pub := by rw [ht.1]; exact hG'.pub
    have hrev : (sentM p').rev = (tickF s).rev := by rw [ht.2.1]; exact hG'.rev
    cases lost
    · have e1 : sendF p s w false = (p', (takeF (tickF s) (sentM p')).1) := by unfold sendF; rw [he]; rfl
      have key : Cs p' (takeF (tickF s) (sentM p')).1 := by
        cases hk : (tickF s).kn
        · rw [take_first hm hpub hrev hk]
          exact ht.acc 0 (by omega) hsi (by omega) (by omega) (by omega) hon hvl
        · obtain ⟨q1, q2, q3, q4⟩ := ht.2.2.2.2.2 hk
          by_cases hl : (tickF s).left < 1
          · rw [take_restart hm hpub hrev hk hl]
            exact ht.acc 0 (by omega) hsi (by omega) (by omega) (by omega) hon hvl
          · rw [take_change hm hpub hrev hk (by omega) (by show 0 ≤ (tickF s).st ∧ (tickF s).st < p'.st; omega) (by show p'.st ≤ 1000000; omega)]
            exact ht.acc _ (by show 0 ≤ p'.st - (tickF s).st - 1 + p'.sq ∧ p'.st - (tickF s).st - 1 + p'.sq ≤ 4000000; omega) hsi (by omega) (by omega) (by omega) hon hvl
      rw [e1]
      exact ⟨hG', hmx, hon, hvs, key.1, fun _ => .inl key, fun _ _ _ => key⟩
    · have e1 : sendF p s w true = (p', tickF s) := by unfold sendF; rw [he]; rfl
      rw [e1]
      refine ⟨hG', hmx, hon, hvs, ?_, fun h => absurd h (by decide), fun h => absurd h (by decide)⟩
      refine ⟨ht.1, ht.2.1, ht.2.2.1, ht.2.2.2.1, ht.2.2.2.2.1, fun hk => ?_⟩
      obtain ⟨q1, q2, q3, q4⟩ := ht.2.2.2.2.2 hk
      exact ⟨hon, by show 1 ≤ (tickF s).st ∧ (tickF s).st ≤ p'.st; omega, q3, fun e => by have : (tickF s).st = p'.st := e; omega⟩
  · have hmx : p'.max = p.max := by rw [hp']; rfl
    obtain ⟨a, b, c, d⟩ := hG.on hon0
    have hvl : p'.vs.length ≤ 1000 := by rw [hvs]; omega
    have hpub : (sentM p').pub = (tickF s).pub := by rw [ht.1]; exact hG'.pub
    have hrev : (sentM p').rev = (tickF s).rev := by rw [ht.2.1]; exact hG'.rev
    cases lost
    · have e1 : sendF p s w false = (p', (takeF (tickF s) (sentM p')).1) := by unfold sendF; rw [he]; rfl
      have key : Cs p' (takeF (tickF s) (sentM p')).1 := by
        cases hk : (tickF s).kn
        · rw [take_first hm hpub hrev hk]
          exact ht.acc 0 (by omega) hsi (by omega) (by omega) (by omega) hon hvl
        · obtain ⟨q1, q2, q3, q4⟩ := ht.2.2.2.2.2 hk
          by_cases hl : (tickF s).left < 1
          · rw [take_restart hm hpub hrev hk hl]
            exact ht.acc 0 (by omega) hsi (by omega) (by omega) (by omega) hon hvl
          · by_cases hss : (tickF s).st = p.st
            · obtain ⟨q5, q6⟩ := q4 hss
              rw [take_repeat (s := tickF s) (m := sentM p') hm hpub hrev hk (by omega) (by show p'.st = (tickF s).st; omega) (by show 0 ≤ (tickF s).sq ∧ (tickF s).sq < p'.sq; omega) (by show p'.sq ≤ 1000000; omega) (by rw [ht.2.2.1]; rfl) (by show p'.vs = (tickF s).vs; rw [hvs, hv0, q6])]
              exact ht.acc _ (by show 0 ≤ p'.sq - (tickF s).sq - 1 ∧ p'.sq - (tickF s).sq - 1 ≤ 4000000; omega) hsi (by omega) (by omega) (by omega) hon hvl
            · rw [take_change hm hpub hrev hk (by omega) (by show 0 ≤ (tickF s).st ∧ (tickF s).st < p'.st; omega) (by show p'.st ≤ 1000000; omega)]
              exact ht.acc _ (by show 0 ≤ p'.st - (tickF s).st - 1 + p'.sq ∧ p'.st - (tickF s).st - 1 + p'.sq ≤ 4000000; omega) hsi (by omega) (by omega) (by omega) hon hvl
      rw [e1]
      exact ⟨hG', hmx, hon, hvs, key.1, fun _ => .inl key, fun _ _ _ => key⟩
    · have e1 : sendF p s w true = (p', tickF s) := by unfold sendF; rw [he]; rfl
      rw [e1]
      refine ⟨hG', hmx, hon, hvs, ?_, fun h => absurd h (by decide), fun h => absurd h (by decide)⟩
      refine ⟨ht.1, ht.2.1, ht.2.2.1, ht.2.2.2.1, ht.2.2.2.2.1, fun hk => ?_⟩
      obtain ⟨q1, q2, q3, q4⟩ := ht.2.2.2.2.2 hk
      refine ⟨hon, by show 1 ≤ (tickF s).st ∧ (tickF s).st ≤ p'.st; omega, q3, fun e => ?_⟩
      obtain ⟨q5, q6⟩ := q4 (by have : (tickF s).st = p'.st := e; omega)
      exact ⟨by show (tickF s).sq ≤ p'.sq; omega, by show (tickF s).vs = p'.vs; rw [q6, hvs, hv0]⟩
  · have hmx : p'.max = p.max := by rw [hp']
    obtain ⟨a, b, c, d⟩ := hG.on hon0
    have e1 : sendF p s w lost = (p', tickF s) := by unfold sendF; rw [he]; rfl
    rw [e1]
    have cv : Cv p' (tickF s) := by
      refine ⟨ht.1, ht.2.1, ht.2.2.1, ht.2.2.2.1, ht.2.2.2.2.1, fun hk => ?_⟩
      obtain ⟨q1, q2, q3, q4⟩ := ht.2.2.2.2.2 hk
      refine ⟨hon, by show 1 ≤ (tickF s).st ∧ (tickF s).st ≤ p'.st; omega, q3, fun e => ?_⟩
      obtain ⟨q5, q6⟩ := q4 (by have : (tickF s).st = p'.st := e; omega)
      exact ⟨by show (tickF s).sq ≤ p'.sq; omega, by show (tickF s).vs = p'.vs; rw [q6, hvs, hv0]⟩
    refine ⟨hG', hmx, hon, hvs, cv, fun _ => .inr ⟨hga, hsi, hon0⟩, fun _ hcs _ => ⟨cv, hon, ?_, ?_, ?_, ?_⟩⟩
    · show (tickF s).kn = true; rw [k1]; exact hcs.2.2.1
    · show (tickF s).st = p'.st; rw [k2, hcs.2.2.2.1, hst]
    · show (tickF s).sq = p'.sq; rw [k3, hcs.2.2.2.2.1, hsq]
    · have := hcs.2.2.2.2.2
      show (tickF s).left = 3 * p'.gap + 1 - p'.since
      unfold tickF
      rw [if_pos (by omega)]
      simp only []
      omega
theorem Cv.new (p : PS) : Cv p (newS 3 4) := ⟨rfl, rfl, rfl, by decide, okS_new 3 4, fun h => by cases h⟩
theorem tick_left (s : SS) : (tickF s).left ≤ max 0 (s.left - 1) := by
  unfold tickF
  split
  · simp only []; omega
  · omega
theorem tcRead0 (s : SS) (h : validF s = false) : TC Try.prog 43 [sa s, iv 0] (.tup [va ⟨0, 0, [], 0, 0, 0⟩, tv false]) := by
  refine tcW Try.func43 k43 h43 (by simp [c43]) (by simp) [] ?_
  simp only [go_sem, c43, sa, scells, vls]
  refine Wcall_at (tcValid s) (by rfl) ?_
  simp only [go_sem, h]
  rfl
def boolDs (B : List Bool) : List D := B.flatMap fun b => [.bool b]
theorem boolDs_length (B : List Bool) : (boolDs B).length = B.length := by
  unfold boolDs
  induction B with
  | nil => rfl
  | cons b r ih => simp [ih]
theorem at_bool {B pre rest : List Bool} {x : Bool} (h : B = pre ++ x :: rest) :
    ((pre.length : Int) < (B.length : Int)) ∧ (boolDs B).drop pre.length = .bool x :: boolDs rest ∧ pre.length < B.length := by
  subst h
  refine ⟨by simp; omega, ?_, by simp⟩
  have e : boolDs (pre ++ x :: rest) = boolDs pre ++ (.bool x :: boolDs rest) := by simp [boolDs]
  rw [e, List.drop_append_of_le_length (by rw [boolDs_length]; omega), List.drop_of_length_le (by rw [boolDs_length]; omega)]
  rfl
theorem split_at {α : Type} (B : List α) (k : Nat) (h : k < B.length) : ∃ pre x rest, B = pre ++ x :: rest ∧ pre.length = k :=
  ⟨B.take k, B[k], B.drop (k + 1), by rw [List.getElem_cons_drop, List.take_append_drop], by simp; omega⟩
theorem Cs.valid {n : Int} {p : PS} {s : SS} (hG : GP 3 4 n p) (h : Cs p s) : validF s = true ∧ s.vs = p.vs := by
  obtain ⟨hc, h1, h2, h3, h4, h5⟩ := h
  obtain ⟨a, b, c, d⟩ := hG.on h1
  obtain ⟨q1, q2, q3, q4⟩ := hc.2.2.2.2.2 h2
  have f := hG.first
  refine ⟨?_, (q4 h3).2⟩
  simp [validF, h2]
  exact ⟨by omega, hc.2.2.1⟩
theorem tc14Converges (L : List IP) (B : List Bool) (w : Int) (hL : L.length < 9223372036854775808) (hB : B.length < 9223372036854775808) : TC Try.prog 13 [ips L, .d (.slice B.length (boolDs B)), iv w] (tv true) := by
  refine tcW Try.func13 k13 h13 (by simp [c13]) (by simp) [] ?_
  obtain ⟨e0, g0⟩ := GP.new (P := 3) (R := 4) (f := 2) (m := 8) (by omega) (by omega) (by omega) (by omega)
  simp only [go_sem, c13, ips]
  refine Wcall_some tcKnown14 ?_
  simp only [go_sem]
  refine Wcall_at (tcNewP 3 2 8 4) (by rfl) ?_
  simp only [go_sem, e0, pa, pcells, vls]
  refine Wcall_at (tcNewS 3 4) (by rfl) ?_
  simp only [go_sem, sa, scells, vls]
  refine W_loop 160 [.keep 0, .keep 1, .keep 2, .keep 7, .keep 8, .keep 9, .keep 10] (fun k st => ∃ q r p s, L = q ++ r ∧ GP 3 4 q.length p ∧ p.max = 8 ∧ Cv p s ∧ q.length ≤ 200 ∧ k = r.length ∧ st = ⟨[(0, ips L), (1, .d (.slice B.length (boolDs B))), (2, iv w), (7, .ptr 120 0), (8, iv 0), (9, .ptr 152 0), (10, iv q.length)], [(120, .box (pcells p)), (152, .box (scells s))], 2208⟩) (by omega) L.length _ (by simp [norm, normGo, boxesBelow, ownIds, adelAll, V.under, St.get, St.obf, aget, adel, ips, pcells, scells, vls]) ⟨[], L, _, newS 3 4, rfl, g0, rfl, Cv.new _, by simp, rfl, rfl⟩ ?_
  rintro k st ⟨q, r, p, s, hq, hG, hmax, hC, h200', rfl, rfl⟩
  have okp := hG.ok (by omega)
  have oks := hC.2.2.2.2.1
  obtain ⟨v1, v2⟩ := valsF_ok w
  by_cases hr : (q.length : Int) < (L.length : Int) ∧ (q.length : Int) < 200
  · obtain ⟨c2, c200⟩ := hr
    cases r with
    | nil => subst hq; simp at c2
    | cons x r =>
    obtain ⟨_, c3, hdrop, hpl⟩ := at_ip hq
    have w5 : w64 ((q.length : Int) + 1) = q.length + 1 := w64_of (by omega)
    have key : ∀ b : Bool, GP 3 4 ((q ++ [x]).length : Nat) (sendF p s x.w b).1 ∧ (sendF p s x.w b).1.max = 8 ∧ Cv (sendF p s x.w b).1 (sendF p s x.w b).2 := by
      intro b
      obtain ⟨g1, g2, _, _, g3, _⟩ := Cv.next hG (by omega) (by omega) hC x.w b
      exact ⟨by simpa using g1, by omega, g3⟩
    by_cases hb : (q.length : Int) < (B.length : Int)
    · obtain ⟨pre, y, rest, hB', hpre⟩ := split_at B q.length (by omega)
      obtain ⟨_, b2, b3⟩ := at_bool hB'
      rw [hpre] at b2 b3
      obtain ⟨g1, g2, g3⟩ := key y
      obtain ⟨p', hp'⟩ : ∃ p', p' = (sendF p s x.w y).1 := ⟨_, rfl⟩
      obtain ⟨s', hs'⟩ : ∃ s', s' = (sendF p s x.w y).2 := ⟨_, rfl⟩
      have T := tcSend p s x.w y okp oks (step_len hG (by omega) x.w)
      rw [← hp'] at g1 g2
      rw [← hp', ← hs'] at g3 T
      simp only [go_sem, c2, c200, c3, hdrop, hb, b2, b3, ips, IPDs_length, boolDs_length, pcells, scells, vls]
      refine Wdcall_at T (by rfl) ?_
      simp only [go_sem, pa, pcells, sa, scells, vls]
      refine ⟨by rfl, ?_⟩
      simp only [go_sem, w5, Kloop_norm]
      exact ⟨r.length, _, by simp, (by simp [norm, normGo, boxesBelow, ownIds, adelAll, V.under, St.get, St.obf, aget, adel, pcells, scells, vls]; rfl), q ++ [x], r, p', s', by simp [hq], g1, g2, g3, by simp; omega, rfl, by simp [ips, pcells, scells, vls]⟩
    · obtain ⟨g1, g2, g3⟩ := key false
      obtain ⟨p', hp'⟩ : ∃ p', p' = (sendF p s x.w false).1 := ⟨_, rfl⟩
      obtain ⟨s', hs'⟩ : ∃ s', s' = (sendF p s x.w false).2 := ⟨_, rfl⟩
      have T := tcSend p s x.w false okp oks (step_len hG (by omega) x.w)
      rw [← hp'] at g1 g2
      rw [← hp', ← hs'] at g3 T
      simp only [go_sem, c2, c200, c3, hdrop, hb, ips, IPDs_length, pcells, scells, vls]
      refine Wdcall_at T (by rfl) ?_
      simp only [go_sem, pa, pcells, sa, scells, vls]
      refine ⟨by rfl, ?_⟩
      simp only [go_sem, w5, Kloop_norm]
      exact ⟨r.length, _, by simp, (by simp [norm, normGo, boxesBelow, ownIds, adelAll, V.under, St.get, St.obf, aget, adel, pcells, scells, vls]; rfl), q ++ [x], r, p', s', by simp [hq], g1, g2, g3, by simp; omega, rfl, by simp [ips, pcells, scells, vls]⟩
  have hout : (decide ((q.length : Int) < (L.length : Int)) && decide ((q.length : Int) < 200)) = false := by
    rw [← Bool.decide_and]; exact decide_eq_false hr
  by_cases h2 : (200 : Int) < L.length
  · have c2 : (q.length : Int) < (L.length : Int) := by omega
    have c200 : ¬ (q.length : Int) < 200 := fun h => hr ⟨c2, h⟩
    simp only [go_sem, c2, c200, h2, ips]
  have hrn : r = [] := by
    cases r with
    | nil => rfl
    | cons x r => subst hq; simp at hr h2 h200'; omega
  subst hrn
  have c2 : ¬ (q.length : Int) < (L.length : Int) := by subst hq; simp
  simp only [go_sem, c2, h2, ips, pcells, scells, vls]
  obtain ⟨g1, g2, g3, g4, g5, _⟩ := Cv.next hG (by omega) (by omega) hC w true
  obtain ⟨p1, hp1⟩ : ∃ p', p' = (sendF p s w true).1 := ⟨_, rfl⟩
  obtain ⟨s1, hs1⟩ : ∃ s', s' = (sendF p s w true).2 := ⟨_, rfl⟩
  have T := tcSend p s w true okp oks (step_len hG (by omega) w)
  rw [← hp1] at g1 g2 g3 g4
  rw [← hp1, ← hs1] at g5 T
  refine Wcall_at T (by rfl) ?_
  simp only [go_sem, pa, pcells, sa, scells, vls]
  have hq1 : (q.length : Int) ≤ 200 := by omega
  clear hp1 hs1
  refine W_loop 160 [.keep 2, .keep 7, .keep 8, .keep 9, .keep 11] (fun k st => ∃ j : Nat, ∃ p s, j ≤ 8 ∧ GP 3 4 (q.length + 1 + j) p ∧ p.max = 8 ∧ p.on = true ∧ p.vs = valsF w ∧ Cv p s ∧ (Cs p s ∨ p.gap - p.since ≤ 8 - (j : Int)) ∧ k = 8 - j ∧ st = ⟨[(2, iv w), (7, .ptr 120 0), (8, iv 0), (9, .ptr 152 0), (11, iv j)], [(120, .box (pcells p)), (152, .box (scells s))], 2208⟩) (by omega) 8 _ (by simp [norm, normGo, boxesBelow, ownIds, adelAll, V.under, St.get, St.obf, aget, adel, pcells, scells, vls]) ⟨0, p1, s1, by omega, by simpa using g1, by omega, g3, g4, g5, .inr ?_, rfl, rfl⟩ ?_
  · obtain ⟨a, b, c, d⟩ := g1.on g3
    simp
    omega
  rintro k st ⟨j, p2, s2, hj8, hG2, hmax2, hon2, hvs2, hC2, hd2, rfl, rfl⟩
  have okp2 := hG2.ok (by omega)
  have oks2 := hC2.2.2.2.2.1
  by_cases hj : (j : Int) < 8
  · have w5 : w64 ((j : Int) + 1) = j + 1 := w64_of (by omega)
    obtain ⟨g1, g2, g3, g4, g5, g6, g7⟩ := Cv.next hG2 (by omega) (by omega) hC2 w false
    obtain ⟨p', hp'⟩ : ∃ p', p' = (sendF p2 s2 w false).1 := ⟨_, rfl⟩
    obtain ⟨s', hs'⟩ : ∃ s', s' = (sendF p2 s2 w false).2 := ⟨_, rfl⟩
    have T := tcSend p2 s2 w false okp2 oks2 (step_len hG2 (by omega) w)
    rw [← hp'] at g1 g2 g3 g4
    rw [← hp', ← hs'] at g5 g6 g7 T
    simp only [go_sem, hj, pcells, scells, vls]
    refine Wcall_at T (by rfl) ?_
    simp only [go_sem, pa, pcells, sa, scells, vls, w5, Kloop_norm]
    refine ⟨8 - (j + 1), _, by omega, (by simp [norm, normGo, boxesBelow, ownIds, adelAll, V.under, St.get, St.obf, aget, adel, pcells, scells, vls]; rfl), j + 1, p', s', by omega, ?_, by omega, g3, g4, g5, ?_, rfl, by simp [pcells, scells, vls]⟩
    · have e : (q.length : Int) + 1 + ((j + 1 : Nat) : Int) = q.length + 1 + j + 1 := by omega
      rw [e]; exact g1
    · rcases hd2 with h | h
      · exact .inl (g7 rfl h hvs2.symm)
      · rcases g6 rfl with h' | ⟨h1, h2', h3⟩
        · exact .inl h'
        · exact .inr (by omega)
  have hcs : Cs p2 s2 := by
    rcases hd2 with h | h
    · exact h
    · obtain ⟨a, b, c, d⟩ := hG2.on hon2
      omega
  obtain ⟨u1, u2⟩ := hcs.valid hG2
  simp only [go_sem, hj, pcells, scells, vls]
  refine Wdcall_at (tcValid s2) (by rfl) ?_
  simp only [go_sem, u1]
  refine Wdcall_at (tcValues w) (by rfl) ?_
  simp only [go_sem, vls]
  refine Wdcall_at (tcSameV s2.vs (valsF w) (by have := oks2.1; omega) (by omega)) (by rfl) ?_
  have e8 : decide (s2.vs = valsF w) = true := by simp [u2, hvs2]
  simp only [go_sem, e8]
  refine ⟨by rfl, ?_⟩
  have hleft : s2.left ≤ 25 := hC2.2.2.2.1
  refine W_loop 160 [.keep 9, .keep 12] (fun k st => ∃ j : Nat, ∃ s, j ≤ 25 ∧ okS s ∧ (s.left ≤ 0 ∨ s.left ≤ 25 - (j : Int)) ∧ k = 25 - j ∧ st = ⟨[(9, .ptr 152 0), (12, iv j)], [(120, .box (pcells p2)), (152, .box (scells s))], 2208⟩) (by omega) 25 _ (by simp [norm, normGo, boxesBelow, ownIds, adelAll, V.under, St.get, St.obf, aget, adel, pcells, scells, vls]) ⟨0, s2, by omega, oks2, .inr (by simpa using hleft), rfl, rfl⟩ ?_
  rintro k st ⟨j, s3, hj25, oks3, hl3, rfl, rfl⟩
  by_cases hj : (j : Int) < 25
  · have w5 : w64 ((j : Int) + 1) = j + 1 := w64_of (by omega)
    have hl := tick_left s3
    simp only [go_sem, hj, pcells, scells, vls]
    refine Wcall_at (tcTick s3 (by have := oks3.1; omega) oks3.2.2) (by rfl) ?_
    simp only [go_sem, sa, scells, vls, w5, Kloop_norm]
    exact ⟨25 - (j + 1), _, by omega, (by simp [norm, normGo, boxesBelow, ownIds, adelAll, V.under, St.get, St.obf, aget, adel, scells, vls]; rfl), j + 1, tickF s3, by omega, okS_tick oks3, by rw [Int.max_def] at hl; split at hl <;> omega, rfl, by simp [scells, vls]⟩
  have hv : validF s3 = false := by
    simp [validF]
    intro _ h
    omega
  simp only [go_sem, hj, pcells, scells, vls]
  refine Wcall_at (tcRead0 s3 hv) (by rfl) ?_
  simp only [go_sem, va]
  refine Wcall_at (tcValid s3) (by rfl) ?_
  simp only [go_sem, hv]
end Go.Proofs.Ytokbcminleemaaa.Vc
