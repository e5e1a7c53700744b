/- Contracts of functions: strings.Trim at "01"; the check of a value. -/
import Derived.Test.YtokbcminleemaaaTpB
set_option linter.unusedSimpArgs false
set_option linter.unusedVariables false
set_option linter.unusedSectionVars false
namespace Go.Proofs.Ytokbcminleemaaa.Vc
open Go Go.Vk Go.Tv Go.Proofs
set_option maxRecDepth 100000
set_option maxHeartbeats 4000000
attribute [local go_sem ↓] W_skip W_reg W_draw W_seq W_cond W_block W_exit W_label W_goto W_ret Kseq_norm Kseq_ret Kseq_ex Kseq_go Kseq_pan Kblk_norm Kblk_ret Kblk_self Kblk_ne Kblk_go Kblk_pan Kloop_ret Kloop_ex Kloop_go Kloop_pan KseqS_norm KseqS_ret KseqS_ex KseqS_pan Kend_norm Kend_ret Kend_ex KscS_norm KscS_ret KscS_ex KscS_go Wr_nil Wr_g Wg_11 Wg_00 Wg_10 Wg_01 Wg_skip Wr_call Wr_callv Wr_inv Winv_if Winv2_some Wr_panic Wr_isnil Wr_op Ev_some Wcv_fn Wd_callv Wd_inv Wdcv_fn Wdinv_if Wdinv2_some ifV_agg ifV_int Wnil_some Wpan_if Wcond_t Wcond_f Wd_nil Wd_g Wd_call Wd_op Wdg_11 Wdg_00 Wdg_10 Wdg_01 Wdg_skip Evd_some step_some step_none val_t val_c get_mk obf_mk rdl_nil rdl_cons aget_cons aget_nil
attribute [local go_sem] pl_mv pl_pick pl_box pl_build pl_bsl pl_ld pl_st pl_nilc pl_bin pl_eqb pl_eq pl_eqn pl_un pl_cvi pl_cvs pl_s2b pl_b2s pl_mki pl_mkf pl_mks pl_sl pl_sls pl_fa pl_fld pl_ia pl_iaA pl_ix pl_ixs pl_ta pl_ex pl_len pl_lens pl_mn pl_mx pl_app pl_apps ev aset adel upd Option.getD_some passAll passV List.append_nil reduceIte Nat.reduceEqDiff decide_eq_true_eq Bool.false_eq_true Bool.true_eq_false reduceCtorEq Nat.reduceAdd updf V.sliceOf placeD placeV V.toDs V.toD1 V.cells List.map_cons List.map_nil Nat.mul_one Nat.zero_mul List.length_nil List.length_cons Nat.zero_add List.nil_append true_and and_true and_self Nat.zero_lt_one if_true if_false Nat.reduceLT Nat.reduceLeDiff Nat.reduceMul splice List.take_zero List.drop_zero List.drop_nil Bool.not_true Bool.not_false bne_self_eq_false Bool.bne_true Bool.bne_false Bool.false_bne Bool.true_bne List.cons_append eq_self Option.map_some Option.map_none boundO bound b_and b_or b_add b_sub b_mul b_rem b_eql b_neq b_lss b_leq b_gtr b_geq b_seql b_sneq b_shr8 b_shl8 decide_true decide_false IOp.xs List.flatMap_cons List.flatMap_nil V.ids V.ids1 V.ids0
attribute [local go_sem] Vk.RetB resVs resV outOf Vk.init recvs recvV recv enumFrom
attribute [local go_sem] bs_length NDs_length VLDs_length bs_nil bs_cons bytesOf_bs
attribute [local go_sem] le_1 le_2 le_3 le_4 le_5 le_6 le_7 le_8 le_9 le_10 le_11 le_12 le_o0 ck_bool ck_int ck_str ck_slice ck_ni ck_if ck_nils ck_own nat_nn Int.cast_ofNat_Int datas V.data? eqCells eqD Bool.true_and Bool.false_and List.all_cons List.all_nil Bool.and_true Bool.and_self List.take_succ_cons List.drop_succ_cons List.getElem?_cons_zero List.getElem?_cons_succ Int.toNat_natCast Nat.add_zero Nat.sub_zero
attribute [local go_sem] Int.reduceBEq Int.reduceBNe Int.reduceLT Int.reduceLE Int.reduceGT Int.reduceGE Int.reduceEq Int.reduceNe Int.reduceAdd Int.reduceSub Int.reduceMul Int.reduceToNat beq_self_eq_true bne_self_eq_false Nat.reduceBEq Nat.reduceSub ge_iff_le gt_iff_lt
def cell01 (n : Nat) : D := .bool (n == 48 || n == 49)
def set01 : List D := (List.range 256).map cell01
theorem set01_drop (n : Nat) (h : n < 256) : set01.drop n = cell01 n :: set01.drop (n + 1) := by
  have hl : n < set01.length := by simp [set01, h]
  rw [List.drop_eq_getElem_cons hl]
  simp [set01]
theorem tcContains (b : UInt8) : TC Try.prog 104 [.dptr set01, .d (.int .u8 b.toNat)] (tv (b == 48 || b == 49)) := by
  refine tcW Try.func104 k104 h104 (by simp [c104]) (by simp) [] ?_
  have hl : set01.length = 256 := by simp [set01]
  have hb := b.toNat_lt
  have h1 : b.toNat ≤ 256 := by omega
  have h2 : ((b.toNat : Int) < 256) := by omega
  simp only [go_sem, c104, hl, h1, h2, set01_drop b.toNat hb, cell01]
  have e : (b.toNat == 48 || b.toNat == 49) = (b == 48 || b == 49) := by
    have q : ∀ k : UInt8, (b.toNat == k.toNat) = (b == k) := fun k => by
      by_cases h : b = k
      · subst h; rw [beq_self_eq_true, beq_self_eq_true]
      · have : ¬ b.toNat = k.toNat := fun e => h (UInt8.toNat_inj.1 e)
        rw [beq_eq_false_iff_ne.2 this, beq_eq_false_iff_ne.2 h]
    have q1 : (b.toNat == 48) = (b == 48) := q 48
    have q2 : (b.toNat == 49) = (b == 49) := q 49
    rw [q1, q2]
  rw [e]
def is01 (b : UInt8) : Bool := b == 48 || b == 49
def trimL (s : List UInt8) : List UInt8 := s.dropWhile is01
def trimR (s : List UInt8) : List UInt8 := (s.reverse.dropWhile is01).reverse
theorem trimR_snoc (s : List UInt8) (b : UInt8) : trimR (s ++ [b]) = if is01 b = true then trimR s else s ++ [b] := by
  unfold trimR
  rw [List.reverse_append, List.reverse_singleton, List.singleton_append, List.dropWhile_cons]
  split
  · rfl
  · simp
theorem trim_nil (s : List UInt8) : (trimL (trimR s) = []) ↔ bits01 s = true := by
  have key : ∀ l : List UInt8, l.dropWhile is01 = [] ↔ l.all is01 = true := by
    intro l
    induction l with
    | nil => simp
    | cons b r ih =>
      rw [List.dropWhile_cons]
      cases h : is01 b <;> simp [h, ih]
  have e : bits01 s = s.all is01 := rfl
  rw [e]
  unfold trimL
  rw [key]
  unfold trimR
  rw [List.all_reverse]
  constructor
  · intro h
    have h2 : (s.reverse.dropWhile is01) = [] := by
      cases hd : s.reverse.dropWhile is01 with
      | nil => rfl
      | cons b r =>
        have h3 := List.head_dropWhile_not is01 (l := s.reverse) (by rw [hd]; simp)
        rw [hd] at h
        simp only [hd, List.head_cons] at h3
        simp only [List.all_cons, Bool.and_eq_true] at h
        rw [h.1] at h3
        simp at h3
    have := (key _).1 h2
    rwa [List.all_reverse] at this
  · intro h
    have : s.reverse.all is01 = true := by rwa [List.all_reverse]
    rw [(key _).2 this]; rfl
theorem tcTrimL (s : List UInt8) (hs : s.length ≤ 140737488355328) : TC Try.prog 100 [sv s, .dptr set01] (sv (trimL s)) := by
  refine tcW Try.func100 k100 h100 (by simp [c100]) (by simp) [] ?_
  simp only [go_sem, c100]
  refine W_loop 88 [.keep 0, .keep 1] (fun m st => ∃ r, trimL s = trimL r ∧ r.length ≤ s.length ∧ m = r.length ∧ st = ⟨[(0, sv r), (1, .dptr set01)], [], 2136⟩) (by omega) s.length _ (by simp [norm, normGo, boxesBelow, ownIds, adelAll, V.under, St.get, St.obf, aget, adel]) ⟨s, rfl, Nat.le_refl _, rfl, rfl⟩ ?_
  rintro m st ⟨r, hr, hl, rfl, rfl⟩
  rw [hr]
  cases r with
  | nil => simp only [go_sem]; rfl
  | cons b r =>
    have h1 : (0 : Int) < ((r.length + 1 : Nat) : Int) := by omega
    simp only [go_sem, h1]
    refine Wcall_at (tcContains b) (by rfl) ?_
    cases hb : (b == 48 || b == 49)
    · simp only [go_sem]
      have : trimL (b :: r) = b :: r := by unfold trimL; rw [List.dropWhile_cons]; simp [is01, hb]
      rw [this]
    · have e1 : trimL (b :: r) = trimL r := by unfold trimL; rw [List.dropWhile_cons]; simp [is01, hb]
      simp only [List.length_cons] at hl
      have c1 : (1 : Int) ≤ ((r.length + 1 : Nat) : Int) := by omega
      simp only [go_sem, c1, Kloop_norm]
      exact ⟨r.length, _, by omega, (by simp [norm, normGo, boxesBelow, ownIds, adelAll, V.under, St.get, St.obf, aget, adel]; rfl), r, e1, by omega, rfl, by simp⟩
theorem tcTrimR (s : List UInt8) (hs : s.length ≤ 140737488355328) : TC Try.prog 101 [sv s, .dptr set01] (sv (trimR s)) := by
  refine tcW Try.func101 k101 h101 (by simp [c101]) (by simp) [] ?_
  simp only [go_sem, c101]
  refine W_loop 88 [.keep 0, .keep 1] (fun m st => ∃ r, trimR s = trimR r ∧ r.length ≤ s.length ∧ m = r.length ∧ st = ⟨[(0, sv r), (1, .dptr set01)], [], 2136⟩) (by omega) s.length _ (by simp [norm, normGo, boxesBelow, ownIds, adelAll, V.under, St.get, St.obf, aget, adel]) ⟨s, rfl, Nat.le_refl _, rfl, rfl⟩ ?_
  rintro m st ⟨r, hr, hl, rfl, rfl⟩
  rw [hr]
  rcases List.eq_nil_or_concat r with rfl | ⟨r, b, rfl⟩
  · simp only [go_sem]; rfl
  · rw [List.concat_eq_append] at hl ⊢
    rw [List.length_append, List.length_singleton] at hl
    have h1 : (0 : Int) < ((r.length + 1 : Nat) : Int) := by omega
    have w1 : w64 (((r.length + 1 : Nat) : Int) - 1) = r.length := by rw [w64_of (by omega)]; omega
    have g1 : (r ++ [b])[r.length]? = some b := by simp
    simp only [go_sem, List.length_append, h1, w1, g1]
    refine Wcall_at (tcContains b) (by rfl) ?_
    rw [trimR_snoc]
    have t1 : (r ++ [b]).take r.length = r := by simp
    have c1 : (r.length : Int) ≤ ((r.length + 1 : Nat) : Int) := by omega
    cases hb : (b == 48 || b == 49)
    · simp only [go_sem]
      have : is01 b = false := hb
      simp [this]
    · have : is01 b = true := hb
      simp only [go_sem, List.length_append, w1, c1, t1, Kloop_norm, this]
      exact ⟨r.length, _, by omega, (by simp [norm, normGo, boxesBelow, ownIds, adelAll, V.under, St.get, St.obf, aget, adel]; rfl), r, rfl, by omega, rfl, by simp⟩
/-- The cells of a set, some bytes in it. -/
def setV : Nat → List V
  | 0 => List.replicate 256 (.d (.bool false))
  | 1 => splice (List.replicate 256 (.d (.bool false))) 48 [.d (.bool true)]
  | _ => splice (splice (List.replicate 256 (.d (.bool false))) 48 [.d (.bool true)]) 49 [.d (.bool true)]
theorem setV_len (n : Nat) : (setV n).length = 256 := by
  match n with
  | 0 => rfl
  | 1 => rfl
  | n + 2 => rfl
theorem setV_toDs (ob : Gt) : V.toDs ob (setV 2) = some (set01, []) := by rfl
def setS (k : Int) (j : Nat) : St := ⟨[(0, sv [48, 49]), (2, .ptr 64 0), (4, iv k)], [(64, .box (setV j))], 2120⟩
theorem tcSet : TC Try.prog 99 [sv [48, 49]] (.tup [.agg (set01.map .d), tv true]) := by
  refine tcW Try.func99 k99 h99 (by simp [c99]) (by simp) [] ?_
  have a0 : ∀ n, (setV n).all V.cellOk = true := fun n => by
    match n with
    | 0 => rfl
    | 1 => rfl
    | n + 2 => rfl
  have e0 : List.replicate 256 (V.d (D.bool false)) = setV 0 := rfl
  have hl := setV_len
  simp only [go_sem, c99, e0, a0]
  refine W_loop 72 [.keep 0, .keep 2, .keep 4] (fun m st => (m = 2 ∧ st = setS 0 0) ∨ (m = 1 ∧ st = setS 1 1) ∨ (m = 0 ∧ st = setS 2 2)) (by omega) 2 (setS 0 0) (by rfl) (.inl ⟨rfl, rfl⟩) ?_
  rintro m st (⟨rfl, rfl⟩ | ⟨rfl, rfl⟩ | ⟨rfl, rfl⟩)
  · simp only [go_sem, setS, a0, hl, Kloop_norm]
    exact ⟨1, setS 1 1, by omega, by rfl, .inr (.inl ⟨rfl, rfl⟩)⟩
  · simp only [go_sem, setS, a0, hl, Kloop_norm]
    exact ⟨0, setS 2 2, by omega, by rfl, .inr (.inr ⟨rfl, rfl⟩)⟩
  · have e3 : (setV 2).take 256 = setV 2 := by rfl
    have e4 : (setV 2).drop 256 = [] := by rfl
    simp only [go_sem, setS, a0, hl, e3, e4, setV_toDs]
theorem tcTrim (s : List UInt8) (hs : s.length ≤ 140737488355328) : TC Try.prog 96 [sv s, sv [48, 49]] (sv (trimL (trimR s))) := by
  refine tcW Try.func96 k96 h96 (by simp [c96]) (by simp) [] ?_
  by_cases h : s = []
  · subst h
    simp only [go_sem, c96]
    rfl
  have e : (s == []) = false := by simpa using h
  have e1 : (([48, 49] : List UInt8) == []) = false := by decide
  have a1 : (List.replicate 256 (V.d (D.bool false))).all V.cellOk = true := by rfl
  have a2 : (List.replicate 256 (V.d (D.bool false))).length = 256 := by rfl
  have a3 : (set01.map V.d).length = 256 := by rfl
  have a4 : (set01.map V.d).all V.cellOk = true := by rfl
  have a5 : (List.replicate 256 (V.d (D.bool false))).drop 256 = [] := by rfl
  have a6 : datas (set01.map V.d) = some set01 := by rfl
  simp only [go_sem, c96, e, e1]
  refine Wcall_some tcSet ?_
  have a7 : set01.length = 256 := by rfl
  simp only [go_sem, a1, a2, a3, a4, a5, a6]
  refine Wcall_at (tcTrimR s hs) (by rfl) ?_
  simp only [go_sem, a7]
  refine Wcall_at (tcTrimL _ (Nat.le_trans ?_ hs)) (by rfl) ?_
  · unfold trimR
    rw [List.length_reverse]
    exact Nat.le_trans (List.dropWhile_suffix is01).length_le (by simp)
  simp only [go_sem]
theorem tcCheck3 (v : VL) : TC Try.prog 91 [.agg [], va v] (iv (if 64 < v.s.length then 4 else if bits01 v.s = true then 0 else 5)) := by
  refine tcW Try.func91 k91 h91 (by simp [c91]) (by simp) [] ?_
  simp only [go_sem, c91, va, placeV]
  refine Wcall_at (tcCheck4 v) (by rfl) ?_
  by_cases h : 64 < v.s.length
  · simp only [go_sem, h]
  simp only [go_sem, h]
  refine Wcall_at (tcTrim v.s (by omega)) (by rfl) ?_
  have k := trim_nil v.s
  cases hb : bits01 v.s
  · have : (trimL (trimR v.s) == []) = false := by
      rw [hb] at k
      cases h : trimL (trimR v.s) with
      | nil => exact absurd (k.1 h) (by simp)
      | cons => rfl
    simp only [go_sem, this]
  · have : (trimL (trimR v.s) == []) = true := by rw [k.2 hb]; rfl
    simp only [go_sem, this]
end Go.Proofs.Ytokbcminleemaaa.Vc
