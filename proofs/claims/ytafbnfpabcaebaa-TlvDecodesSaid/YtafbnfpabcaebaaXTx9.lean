/- Written by xprint.py, a program of this session over the kit's print: what functions of the program come to, walked. -/
import Derived.Test.YtafbnfpabcaebaaXTx0
import Derived.Test.YtafbnfpabcaebaaXTx3
namespace Go.Proofs.Ytafbnfpabcaebaa.XT
open Go.RowKit Go.Proofs.YtafbnfpabcaebaaW.PrintWords Go.Proofs.YtafbnfpabcaebaaW.PrintLast Go.Proofs.YtafbnfpabcaebaaW.PrintMore
attribute [local go_sem] max2_int min2_int max_two min_two max_three min_three max_four min_four   -- for this text's walks alone
set_option linter.unusedVariables false
set_option linter.unusedSimpArgs false

/-! ### tlv_length: function 41 -/
mutual
def tlv_length.j0 : Nat → List Int → Int → Option (Int × Int × Int)
 | 0, _, _ => none
 | k + 1, x0, x3 => if (x0.length : Int) < x3 then (some (0, 0, 13)) else (if 0 < (x0.length : Int) then (if x3 > 1 then (if 1 ≤ x3 then (if x3 ≤ (x0.length : Int) then ((some ((x0.take (x3 : Int).toNat).drop 1 : List Int)).bind fun y204 => (tlv_length.l0 k 0 x3 y204 (y204.length : Int) 0)) else (none)) else (none)) else (if x3 = 1 then (if (wrap64 (rd x0 0)) > 127 then (some (0, 0, 16)) else ((tlv_head.f (wrap64 (rd x0 0))).bind fun t211 => (if t211 = x3 then (some (wrap64 (rd x0 0), x3, 0)) else (some (0, 0, 16))))) else ((tlv_head.f (wrap64 (rd x0 0))).bind fun t212 => (if t212 = x3 then (some (wrap64 (rd x0 0), x3, 0)) else (some (0, 0, 16)))))) else (none))
def tlv_length.l0 : Nat → Int → Int → List Int → Int → Int → Option (Int × Int × Int)
 | 0, _, _, _, _, _ => none
 | k + 1, x2, x3, x29, x30, x31 => if x31 < x30 then (if 0 ≤ x31 then (if x31 < (x29.length : Int) then (tlv_length.l0 k (Go.bits .or .i64 (wrap64 (x2 * 256)) (wrap64 (rd x29 x31))) x3 x29 x30 (wrap64 (x31 + 1))) else (none)) else (none)) else (if x3 = 1 then (if x2 > 127 then (some (0, 0, 16)) else ((tlv_head.f x2).bind fun t209 => (if t209 = x3 then (some (x2, x3, 0)) else (some (0, 0, 16))))) else ((tlv_head.f x2).bind fun t210 => (if t210 = x3 then (some (x2, x3, 0)) else (some (0, 0, 16)))))
end
def tlv_length.f (k : Nat) (l0 : List Int) : Option (Int × Int × Int) := if (l0.length : Int) = 0 then (some (0, 0, 13)) else (if 0 < (l0.length : Int) then (if (rd l0 0) = 129 then (tlv_length.j0 k l0 2) else (if (rd l0 0) = 130 then (tlv_length.j0 k l0 3) else (tlv_length.j0 k l0 1))) else (none))
theorem tlv_length.mono_l : ∀ k, (∀ y0 y1, LeO (tlv_length.j0 k y0 y1) (tlv_length.j0 (k + 1) y0 y1)) ∧ (∀ y0 y1 y2 y3 y4, LeO (tlv_length.l0 k y0 y1 y2 y3 y4) (tlv_length.l0 (k + 1) y0 y1 y2 y3 y4))
 | 0 => ⟨fun _ _ r h => by simp [tlv_length.j0] at h, fun _ _ _ _ _ r h => by simp [tlv_length.l0] at h⟩
 | k + 1 => by
  obtain ⟨ih0, ih1⟩ := tlv_length.mono_l k
  refine ⟨?_, ?_⟩
  ·intro y0 y1
   unfold tlv_length.j0
   repeat' first
   | (with_reducible exact ih0 _ _)
   | (with_reducible exact ih1 _ _ _ _ _)
   | (with_reducible exact LeO.refl _)
   | (with_reducible exact LeO.none _)
   | (with_reducible refine LeO.ite ?_ ?_)
   | (with_reducible refine LeO.bind ?_ (fun _ => ?_))
   | exact ih0 _ _
   | exact ih1 _ _ _ _ _
   | exact LeO.none _
   | refine LeO.ite ?_ ?_
   | refine LeO.bind ?_ (fun _ => ?_)
  ·intro y0 y1 y2 y3 y4
   unfold tlv_length.l0
   repeat' first
   | (with_reducible exact ih0 _ _)
   | (with_reducible exact ih1 _ _ _ _ _)
   | (with_reducible exact LeO.refl _)
   | (with_reducible exact LeO.none _)
   | (with_reducible refine LeO.ite ?_ ?_)
   | (with_reducible refine LeO.bind ?_ (fun _ => ?_))
   | exact ih0 _ _
   | exact ih1 _ _ _ _ _
   | exact LeO.none _
   | refine LeO.ite ?_ ?_
   | refine LeO.bind ?_ (fun _ => ?_)
theorem tlv_length.mono : ∀ a0 k, LeO (tlv_length.f k a0) (tlv_length.f (k + 1) a0) := by
 intro a0 k
 obtain ⟨ih0, ih1⟩ := tlv_length.mono_l k
 unfold tlv_length.f
 repeat' first
   | (with_reducible exact ih0 _ _)
   | (with_reducible exact ih1 _ _ _ _ _)
   | (with_reducible exact LeO.refl _)
   | (with_reducible exact LeO.none _)
   | (with_reducible refine LeO.ite ?_ ?_)
   | (with_reducible refine LeO.bind ?_ (fun _ => ?_))
   | exact ih0 _ _
   | exact ih1 _ _ _ _ _
   | exact LeO.none _
   | refine LeO.ite ?_ ?_
   | refine LeO.bind ?_ (fun _ => ?_)
set_option maxHeartbeats 8000000 in
set_option maxRecDepth 100000 in
theorem tlv_length.calls (k : Nat) (A0 : Option Addr) (c0 : Nat) (l0 : List Int) (r1 : Int) (r2 : Int) (r3 : Int) (w : World) (hr0 : Kd.C (Kd.int .u8) w A0 l0.length l0) (hc0 : l0.length ≤ c0) (h : tlv_length.f k l0 = some (r1, r2, r3)) :
  Calls Try.prog 41 #[.slice A0 l0.length c0] w fun e w' => e = .returned (.tuple #[.int .i64 r1, .int .i64 r2, .int .i64 r3]) ∧ Drawn0 w w' := by
 have HR0 := Aside0.mk hr0
 have HC0 := Aside0.mk hc0
 clear hr0 hc0
 have H : (if (l0.length : Int) = 0 then (some (0, 0, 13)) else (if 0 < (l0.length : Int) then (if (rd l0 0) = 129 then (tlv_length.j0 k l0 2) else (if (rd l0 0) = 130 then (tlv_length.j0 k l0 3) else (tlv_length.j0 k l0 1))) else (none))) = some (r1, r2, r3) := h
 clear h
 by_cases c2 : (l0.length : Int) = 0
 ·rw [if_pos c2] at H
  have c2b0 : ((l0.length : Int) == 0) = true := beq_iff_eq.mpr c2
  have c2b1 : ((l0.length : Int) != 0) = false := bne_eq_false_iff_eq.mpr c2
  clear c2
  simp only [Option.some.injEq, Prod.mk.injEq] at H
  obtain ⟨rfl, rfl, rfl⟩ := H
  go_enter Try.func41, Try.ntmps41
  go_wp2
  go_ret3
  exact ⟨by first | rfl | (simp; done) | (simp [*]; done), by repeat (first | exact Drawn0.refl _ | apply Drawn0.step)⟩
 ·rw [if_neg c2] at H
  have c2b0 : ((l0.length : Int) == 0) = false := beq_eq_false_iff_ne.mpr c2
  have c2b1 : ((l0.length : Int) != 0) = true := bne_iff_ne.mpr c2
  have c2b2 : ¬ (l0 = []) := fun h_ => c2 (by rw [h_]; rfl)
  by_cases c3 : 0 < (l0.length : Int)
  ·rw [if_pos c3] at H
   have c3b0 : decide (0 < (l0.length : Int)) = true := decide_eq_true c3
   have c3b1 : decide (0 < l0.length) = true := decide_eq_true (by omega)
   clear c3
   have HC4 := Aside0.mk H
   clear H
   have p202 : 0 ≤ (0 : Int) := (by omega)
   have q202 : 0 < (l0.length : Int) := of_decide_eq_true (by first | (with_reducible assumption) | assumption)
   obtain ⟨ad202, e202, hx202_0⟩ := Kd.at_int HR0.out 0 p202 q202
   cases e202
   have qi202 : (0 < l0.length) = True := eq_true (by omega)
   (try rw [show ((0 : Int)).toNat = 0 from rfl] at hx202_0)
   (try rw [Addr.add_zero'] at hx202_0)
   replace p202 := eq_true p202
   replace q202 := eq_true q202
   go_enter Try.func41, Try.ntmps41
   go_upto_block 0 with (fail)
   go_cut [3] (fun v3 wc => ∃ (kq : Nat) (x3_3 : Int), v3 = .int .i64 x3_3 ∧ Aside0 (tlv_length.j0 kq l0 x3_3 = some (r1, r2, r3)) ∧ Aside0 (kq ≤ k) ∧ Drawn0 w wc)
   case first =>
    have H := HC4.out
    clear HC4
    by_cases c5 : (rd l0 0) = 129
    ·rw [if_pos c5] at H
     have c5b0 : ((rd l0 0) == 129) = true := beq_iff_eq.mpr c5
     have c5b1 : ((rd l0 0) != 129) = false := bne_eq_false_iff_eq.mpr c5
     clear c5
     (first | rw [c5b0] | (simp only [i64_w, i32_w]; rw [c5b0]) | skip)
     have H' := Aside0.mk H
     clear H
     go_wp2
     go_meet
     case rel => exact ⟨_, (2), (by first | rfl | (simp; done) | (simp [*]; done)), H', ⟨by first | omega | exact Nat.le_refl _⟩, by repeat (first | exact Drawn0.refl _ | apply Drawn0.step)⟩
    ·rw [if_neg c5] at H
     have c5b0 : ((rd l0 0) == 129) = false := beq_eq_false_iff_ne.mpr c5
     have c5b1 : ((rd l0 0) != 129) = true := bne_iff_ne.mpr c5
     (first | rw [c5b0] | (simp only [i64_w, i32_w]; rw [c5b0]) | skip)
     by_cases c6 : (rd l0 0) = 130
     ·rw [if_pos c6] at H
      have c6b0 : ((rd l0 0) == 130) = true := beq_iff_eq.mpr c6
      have c6b1 : ((rd l0 0) != 130) = false := bne_eq_false_iff_eq.mpr c6
      clear c6
      have H' := Aside0.mk H
      clear H
      go_wp2
      go_meet
      case rel => exact ⟨_, (3), (by first | rfl | (simp; done) | (simp [*]; done)), H', ⟨by first | omega | exact Nat.le_refl _⟩, by repeat (first | exact Drawn0.refl _ | apply Drawn0.step)⟩
     ·rw [if_neg c6] at H
      have c6b0 : ((rd l0 0) == 130) = false := beq_eq_false_iff_ne.mpr c6
      have c6b1 : ((rd l0 0) != 130) = true := bne_iff_ne.mpr c6
      have H' := Aside0.mk H
      clear H
      go_wp2
      go_meet
      case rel => exact ⟨_, (1), (by first | rfl | (simp; done) | (simp [*]; done)), H', ⟨by first | omega | exact Nat.le_refl _⟩, by repeat (first | exact Drawn0.refl _ | apply Drawn0.step)⟩
   case rest =>
    clear HC4
    try clear c2
    try clear c2b0
    try clear c2b1
    try clear c2b2
    try clear p2
    try clear q2
    try clear hx2
    try clear qi2
    try clear c3
    try clear c3b0
    try clear c3b1
    try clear c4
    try clear c5
    try clear c5b0
    try clear c5b1
    try clear c6
    try clear c6b0
    try clear c6b1
    try clear hx202_0
    try clear p202
    try clear q202
    obtain ⟨kq, x3_3, rfl, HA, HJ3, ⟨mc3, rfl⟩⟩ := hcut
    cases kq with
    | zero => exact absurd HA.out (by simp [tlv_length.j0])
    | succ kj3 =>
     have H := HA.out
     clear HA
     simp only [tlv_length.j0] at H
     by_cases c7 : (l0.length : Int) < x3_3
     ·rw [if_pos c7] at H
      have c7b0 : decide ((l0.length : Int) < x3_3) = true := decide_eq_true c7
      clear c7
      simp only [Option.some.injEq, Prod.mk.injEq] at H
      obtain ⟨rfl, rfl, rfl⟩ := H
      go_wp2
      go_ret3
      exact ⟨by first | rfl | (simp; done) | (simp [*]; done), by repeat (first | exact Drawn0.refl _ | apply Drawn0.step)⟩
     ·rw [if_neg c7] at H
      have c7b0 : decide ((l0.length : Int) < x3_3) = false := decide_eq_false c7
      clear c7
      by_cases c8 : 0 < (l0.length : Int)
      ·rw [if_pos c8] at H
       have c8b0 : decide (0 < (l0.length : Int)) = true := decide_eq_true c8
       have c8b1 : decide (0 < l0.length) = true := decide_eq_true (by omega)
       clear c8
       by_cases c9 : x3_3 > 1
       ·rw [if_pos c9] at H
        have c9b0 : decide (1 < x3_3) = true := decide_eq_true c9
        clear c9
        by_cases c10 : 1 ≤ x3_3
        ·rw [if_pos c10] at H
         have c10b0 := eq_true c10
         have c10b1 : decide (1 ≤ x3_3) = true := decide_eq_true c10
         clear c10
         by_cases c11 : x3_3 ≤ (l0.length : Int)
         ·rw [if_pos c11] at H
          have c11b0 := eq_true c11
          have c11b1 : decide (x3_3 ≤ (l0.length : Int)) = true := decide_eq_true c11
          clear c11
          obtain ⟨y204, hy204⟩ : ∃ y_ : List Int, y_ = ((l0.take (x3_3 : Int).toNat).drop 1) := ⟨_, rfl⟩
          replace H : (tlv_length.l0 kj3 0 x3_3 y204 (y204.length : Int) 0) = some (r1, r2, r3) := by first | (rw [hy204]; with_reducible exact H) | (have H2_ := (Option.bind_some _ _).symm.trans H; rw [hy204]; with_reducible exact H2_) | (have H2_ := (Option.bind_some _ _).symm.trans H; with_reducible exact H2_) | with_reducible exact H | (rw [hy204]; exact H) | exact H
          have Ny204 := Aside0.mk hy204
          clear hy204
          have H' := Aside0.mk H
          clear H
          have p203 : 0 ≤ (0 : Int) := (by omega)
          have q203 : 0 < (l0.length : Int) := of_decide_eq_true (by first | (with_reducible assumption) | assumption)
          obtain ⟨ad203, e203, hx203_0⟩ := Kd.at_int HR0.out 0 p203 q203
          obtain rfl : ad202 = ad203 := (by injection e203)
          have qi203 : (0 < l0.length) = True := eq_true (by omega)
          (try rw [show ((0 : Int)).toNat = 0 from rfl] at hx203_0)
          (try rw [Addr.add_zero'] at hx203_0)
          replace p203 := eq_true p203
          replace q203 := eq_true q203
          have q12 : (x3_3 : Int) ≤ ((l0.length : Int) : Int) := of_decide_eq_true (by first | (with_reducible assumption) | assumption)
          obtain ⟨i012, hi012, _, hsz12, _⟩ := info_parts info5
          have hroom12 : l0.length ≤ c0 := HC0.out
          have hC12 : Kd.C (Kd.int .u8) _ (some ad202) l0.length l0 := HR0.out
          have ql12 : (1 : Int) ≤ (x3_3 : Int) := of_decide_eq_true (by first | (with_reducible assumption) | assumption)
          have hcut12 := cut_mid (P := Try.prog) 22 5 .i64 .i64 Try.underlying22 hi012 1 hsz12 (some ad202) l0.length c0 1 x3_3 (by omega) ql12 q12 hroom12
          have hr12 := Kd.C_mid (lo := (1 : Int).toNat) (hi := (x3_3 : Int).toNat) (c := c0) hC12 (by omega) (by omega) hroom12
          obtain ⟨A12, hA12⟩ : ∃ A1, A1 = (if c0 = (1 : Int).toNat then (some ad202) else ((some ad202) : Option Addr).map (·.add ((1 : Int).toNat * 1))) := ⟨_, rfl⟩
          obtain ⟨c12, hc12⟩ : ∃ c1, c1 = c0 - (1 : Int).toNat := ⟨_, rfl⟩
          have hy12 : y204.length = (x3_3 : Int).toNat - (1 : Int).toNat := (by rw [Ny204.out, List.length_drop, List.length_take] <;> omega)
          rw [show ((l0).take (x3_3 : Int).toNat).drop (1 : Int).toNat = y204 from Ny204.out.symm] at hr12
          replace hr12 : Kd.C (Kd.int .u8) _ A12 y204.length y204 := (by rw [hA12]; exact hr12)
          rw [← hy12, ← hA12, ← hc12] at hcut12
          have HR207 := Aside0.mk hr12
          have HC207 := Aside0.mk (show y204.length ≤ c12 from by rw [hy12, hc12]; exact Nat.sub_le_sub_right (Nat.le_trans (by omega) hroom12) _)
          clear hr12 hC12 hroom12 hi012 hsz12 hc12
          have KY12 := Aside0.mk hy12
          have KA12 := Aside0.mk hA12
          clear hy12 hA12
          replace q12 := eq_true q12
          go_wp2
          go_loopg [2, 31] kj3 (fun kq v2 v31 w' => ∃ (x2_2 : Int) (x31_2 : Int), v2 = .int .i64 x2_2 ∧ v31 = .int .i64 x31_2 ∧ Aside0 (tlv_length.l0 kq x2_2 x3_3 y204 (y204.length : Int) x31_2 = some (r1, r2, r3)) ∧ Aside0 (kq ≤ kj3) ∧ Drawn0 w w')
          case atStart => exact ⟨(0), (0), (by first | rfl | (simp; done) | (simp [*]; done)), (by first | rfl | (simp; done) | (simp [*]; done)), H', ⟨Nat.le_refl _⟩, by repeat (first | exact Drawn0.refl _ | apply Drawn0.step)⟩
          case round =>
           clear H'
           try clear c1
           try clear q1
           try clear c2
           try clear c2b0
           try clear c2b1
           try clear c2b2
           try clear p2
           try clear q2
           try clear hx2
           try clear qi2
           try clear c3
           try clear c3b0
           try clear c3b1
           try clear c4
           try clear c5
           try clear c5b0
           try clear c5b1
           try clear c6
           try clear c6b0
           try clear c6b1
           try clear c7
           try clear c7b0
           try clear c8
           try clear c8b0
           try clear c8b1
           try clear c9
           try clear c9b0
           try clear c10
           try clear c10b0
           try clear c10b1
           try clear c11
           try clear c11b0
           try clear c11b1
           try clear c12
           try clear q12
           try clear hx202_0
           try clear hx203_0
           try clear p2
           try clear p202
           try clear p203
           try clear q12
           try clear q2
           try clear q202
           try clear q203
           obtain ⟨x2_2, x31_2, rfl, rfl, HA, HK2, ⟨m2, rfl⟩⟩ := hrel
           cases gk with
           | zero => exact absurd HA.out (by simp [tlv_length.l0])
           | succ k2 =>
            have H := HA.out
            clear HA
            simp only [tlv_length.l0] at H
            by_cases c13 : x31_2 < (y204.length : Int)
            ·rw [if_pos c13] at H
             have c13b0 : decide (x31_2 < (y204.length : Int)) = true := decide_eq_true c13
             clear c13
             by_cases c14 : 0 ≤ x31_2
             ·rw [if_pos c14] at H
              have c14b0 : decide (0 ≤ x31_2) = true := decide_eq_true c14
              clear c14
              by_cases c15 : x31_2 < (y204.length : Int)
              ·rw [if_pos c15] at H
               have c15b0 : decide (x31_2 < (y204.length : Int)) = true := decide_eq_true c15
               clear c15
               have H' := Aside0.mk H
               clear H
               have p208 : 0 ≤ (x31_2 : Int) := of_decide_eq_true (by first | (with_reducible assumption) | assumption)
               have q208 : x31_2 < (y204.length : Int) := of_decide_eq_true (by first | (with_reducible assumption) | assumption)
               obtain ⟨ad208, e208, hx208_0⟩ := Kd.at_int HR207.out x31_2 p208 q208
               cases e208
               replace p208 := eq_true p208
               replace q208 := eq_true q208
               go_wp2
               go_roundg k2
               case measure => have := HJ3.out; have := HK2.out; omega
               case rel => exact ⟨(Go.bits .or .i64 (wrap64 (x2_2 * 256)) (wrap64 (rd y204 x31_2))), (wrap64 (x31_2 + 1)), (by first | rfl | (simp; done) | (simp [*]; done)), (by first | rfl | (simp; done) | (simp [*]; done)), H', ⟨by have := HJ3.out; have := HK2.out; omega⟩, by repeat (first | exact Drawn0.refl _ | apply Drawn0.step)⟩
              ·rw [if_neg c15] at H
               exact absurd H (by simp)
             ·rw [if_neg c14] at H
              exact absurd H (by simp)
            ·rw [if_neg c13] at H
             have c13b0 : decide (x31_2 < (y204.length : Int)) = false := decide_eq_false c13
             clear c13
             by_cases c16 : x3_3 = 1
             ·rw [if_pos c16] at H
              have c16b0 : (x3_3 == 1) = true := beq_iff_eq.mpr c16
              have c16b1 : (x3_3 != 1) = false := bne_eq_false_iff_eq.mpr c16
              clear c16
              by_cases c17 : x2_2 > 127
              ·rw [if_pos c17] at H
               have c17b0 : decide (127 < x2_2) = true := decide_eq_true c17
               clear c17
               simp only [Option.some.injEq, Prod.mk.injEq] at H
               obtain ⟨rfl, rfl, rfl⟩ := H
               go_wp2
               go_ret3
               exact ⟨by first | rfl | (simp; done) | (simp [*]; done), by repeat (first | exact Drawn0.refl _ | apply Drawn0.step)⟩
              ·rw [if_neg c17] at H
               have c17b0 : decide (127 < x2_2) = false := decide_eq_false c17
               clear c17
               replace H := Option.bind_eq_some_iff.mp H
               obtain ⟨t209, A180, H⟩ := H
               replace H : (if t209 = x3_3 then (some (x2_2, x3_3, 0)) else (some (0, 0, 16))) = some (r1, r2, r3) := H
               have A18 := Aside0.mk A180
               clear A180
               by_cases c19 : t209 = x3_3
               ·rw [if_pos c19] at H
                have c19b0 : (t209 == x3_3) = true := beq_iff_eq.mpr c19
                have c19b1 : (t209 != x3_3) = false := bne_eq_false_iff_eq.mpr c19
                clear c19
                simp only [Option.some.injEq, Prod.mk.injEq] at H
                obtain ⟨rfl, rfl, rfl⟩ := H
                go_wp2_with (first | (go_at_call 38; (with_reducible refine (tlv_head.calls x2_2 t209 _ A18.out).mono ?_); rintro e w' ⟨rfl, ⟨nd, rfl⟩⟩))
                go_ret3
                exact ⟨by first | rfl | (simp; done) | (simp [*]; done), by repeat (first | exact Drawn0.refl _ | apply Drawn0.step)⟩
               ·rw [if_neg c19] at H
                have c19b0 : (t209 == x3_3) = false := beq_eq_false_iff_ne.mpr c19
                have c19b1 : (t209 != x3_3) = true := bne_iff_ne.mpr c19
                simp only [Option.some.injEq, Prod.mk.injEq] at H
                obtain ⟨rfl, rfl, rfl⟩ := H
                go_wp2_with (first | (go_at_call 38; (with_reducible refine (tlv_head.calls x2_2 t209 _ A18.out).mono ?_); rintro e w' ⟨rfl, ⟨nd, rfl⟩⟩))
                go_ret3
                exact ⟨by first | rfl | (simp; done) | (simp [*]; done), by repeat (first | exact Drawn0.refl _ | apply Drawn0.step)⟩
             ·rw [if_neg c16] at H
              have c16b0 : (x3_3 == 1) = false := beq_eq_false_iff_ne.mpr c16
              have c16b1 : (x3_3 != 1) = true := bne_iff_ne.mpr c16
              replace H := Option.bind_eq_some_iff.mp H
              obtain ⟨t210, A200, H⟩ := H
              replace H : (if t210 = x3_3 then (some (x2_2, x3_3, 0)) else (some (0, 0, 16))) = some (r1, r2, r3) := H
              have A20 := Aside0.mk A200
              clear A200
              by_cases c21 : t210 = x3_3
              ·rw [if_pos c21] at H
               have c21b0 : (t210 == x3_3) = true := beq_iff_eq.mpr c21
               have c21b1 : (t210 != x3_3) = false := bne_eq_false_iff_eq.mpr c21
               clear c21
               simp only [Option.some.injEq, Prod.mk.injEq] at H
               obtain ⟨rfl, rfl, rfl⟩ := H
               go_wp2_with (first | (go_at_call 38; (with_reducible refine (tlv_head.calls x2_2 t210 _ A20.out).mono ?_); rintro e w' ⟨rfl, ⟨nd, rfl⟩⟩))
               go_ret3
               exact ⟨by first | rfl | (simp; done) | (simp [*]; done), by repeat (first | exact Drawn0.refl _ | apply Drawn0.step)⟩
              ·rw [if_neg c21] at H
               have c21b0 : (t210 == x3_3) = false := beq_eq_false_iff_ne.mpr c21
               have c21b1 : (t210 != x3_3) = true := bne_iff_ne.mpr c21
               simp only [Option.some.injEq, Prod.mk.injEq] at H
               obtain ⟨rfl, rfl, rfl⟩ := H
               go_wp2_with (first | (go_at_call 38; (with_reducible refine (tlv_head.calls x2_2 t210 _ A20.out).mono ?_); rintro e w' ⟨rfl, ⟨nd, rfl⟩⟩))
               go_ret3
               exact ⟨by first | rfl | (simp; done) | (simp [*]; done), by repeat (first | exact Drawn0.refl _ | apply Drawn0.step)⟩
         ·rw [if_neg c11] at H
          exact absurd H (by simp)
        ·rw [if_neg c10] at H
         exact absurd H (by simp)
       ·rw [if_neg c9] at H
        have c9b0 : decide (1 < x3_3) = false := decide_eq_false c9
        clear c9
        by_cases c22 : x3_3 = 1
        ·rw [if_pos c22] at H
         have c22b0 : (x3_3 == 1) = true := beq_iff_eq.mpr c22
         have c22b1 : (x3_3 != 1) = false := bne_eq_false_iff_eq.mpr c22
         clear c22
         by_cases c23 : (wrap64 (rd l0 0)) > 127
         ·rw [if_pos c23] at H
          have c23b0 : decide (127 < (wrap64 (rd l0 0))) = true := decide_eq_true c23
          clear c23
          simp only [Option.some.injEq, Prod.mk.injEq] at H
          obtain ⟨rfl, rfl, rfl⟩ := H
          have p203 : 0 ≤ (0 : Int) := (by omega)
          have q203 : 0 < (l0.length : Int) := of_decide_eq_true (by first | (with_reducible assumption) | assumption)
          obtain ⟨ad203, e203, hx203_0⟩ := Kd.at_int HR0.out 0 p203 q203
          obtain rfl : ad202 = ad203 := (by injection e203)
          have qi203 : (0 < l0.length) = True := eq_true (by omega)
          (try rw [show ((0 : Int)).toNat = 0 from rfl] at hx203_0)
          (try rw [Addr.add_zero'] at hx203_0)
          replace p203 := eq_true p203
          replace q203 := eq_true q203
          go_wp2
          go_ret3
          exact ⟨by first | rfl | (simp; done) | (simp [*]; done), by repeat (first | exact Drawn0.refl _ | apply Drawn0.step)⟩
         ·rw [if_neg c23] at H
          have c23b0 : decide (127 < (wrap64 (rd l0 0))) = false := decide_eq_false c23
          clear c23
          replace H := Option.bind_eq_some_iff.mp H
          obtain ⟨t211, A240, H⟩ := H
          replace H : (if t211 = x3_3 then (some (wrap64 (rd l0 0), x3_3, 0)) else (some (0, 0, 16))) = some (r1, r2, r3) := H
          have A24 := Aside0.mk A240
          clear A240
          by_cases c25 : t211 = x3_3
          ·rw [if_pos c25] at H
           have c25b0 : (t211 == x3_3) = true := beq_iff_eq.mpr c25
           have c25b1 : (t211 != x3_3) = false := bne_eq_false_iff_eq.mpr c25
           clear c25
           simp only [Option.some.injEq, Prod.mk.injEq] at H
           obtain ⟨rfl, rfl, rfl⟩ := H
           have p203 : 0 ≤ (0 : Int) := (by omega)
           have q203 : 0 < (l0.length : Int) := of_decide_eq_true (by first | (with_reducible assumption) | assumption)
           obtain ⟨ad203, e203, hx203_0⟩ := Kd.at_int HR0.out 0 p203 q203
           obtain rfl : ad202 = ad203 := (by injection e203)
           have qi203 : (0 < l0.length) = True := eq_true (by omega)
           (try rw [show ((0 : Int)).toNat = 0 from rfl] at hx203_0)
           (try rw [Addr.add_zero'] at hx203_0)
           replace p203 := eq_true p203
           replace q203 := eq_true q203
           go_wp2_with (first | (go_at_call 38; (with_reducible refine (tlv_head.calls (wrap64 (rd l0 0)) t211 _ A24.out).mono ?_); rintro e w' ⟨rfl, ⟨nd, rfl⟩⟩))
           go_ret3
           exact ⟨by first | rfl | (simp; done) | (simp [*]; done), by repeat (first | exact Drawn0.refl _ | apply Drawn0.step)⟩
          ·rw [if_neg c25] at H
           have c25b0 : (t211 == x3_3) = false := beq_eq_false_iff_ne.mpr c25
           have c25b1 : (t211 != x3_3) = true := bne_iff_ne.mpr c25
           simp only [Option.some.injEq, Prod.mk.injEq] at H
           obtain ⟨rfl, rfl, rfl⟩ := H
           have p203 : 0 ≤ (0 : Int) := (by omega)
           have q203 : 0 < (l0.length : Int) := of_decide_eq_true (by first | (with_reducible assumption) | assumption)
           obtain ⟨ad203, e203, hx203_0⟩ := Kd.at_int HR0.out 0 p203 q203
           obtain rfl : ad202 = ad203 := (by injection e203)
           have qi203 : (0 < l0.length) = True := eq_true (by omega)
           (try rw [show ((0 : Int)).toNat = 0 from rfl] at hx203_0)
           (try rw [Addr.add_zero'] at hx203_0)
           replace p203 := eq_true p203
           replace q203 := eq_true q203
           go_wp2_with (first | (go_at_call 38; (with_reducible refine (tlv_head.calls (wrap64 (rd l0 0)) t211 _ A24.out).mono ?_); rintro e w' ⟨rfl, ⟨nd, rfl⟩⟩))
           go_ret3
           exact ⟨by first | rfl | (simp; done) | (simp [*]; done), by repeat (first | exact Drawn0.refl _ | apply Drawn0.step)⟩
        ·rw [if_neg c22] at H
         have c22b0 : (x3_3 == 1) = false := beq_eq_false_iff_ne.mpr c22
         have c22b1 : (x3_3 != 1) = true := bne_iff_ne.mpr c22
         replace H := Option.bind_eq_some_iff.mp H
         obtain ⟨t212, A260, H⟩ := H
         replace H : (if t212 = x3_3 then (some (wrap64 (rd l0 0), x3_3, 0)) else (some (0, 0, 16))) = some (r1, r2, r3) := H
         have A26 := Aside0.mk A260
         clear A260
         by_cases c27 : t212 = x3_3
         ·rw [if_pos c27] at H
          have c27b0 : (t212 == x3_3) = true := beq_iff_eq.mpr c27
          have c27b1 : (t212 != x3_3) = false := bne_eq_false_iff_eq.mpr c27
          clear c27
          simp only [Option.some.injEq, Prod.mk.injEq] at H
          obtain ⟨rfl, rfl, rfl⟩ := H
          have p203 : 0 ≤ (0 : Int) := (by omega)
          have q203 : 0 < (l0.length : Int) := of_decide_eq_true (by first | (with_reducible assumption) | assumption)
          obtain ⟨ad203, e203, hx203_0⟩ := Kd.at_int HR0.out 0 p203 q203
          obtain rfl : ad202 = ad203 := (by injection e203)
          have qi203 : (0 < l0.length) = True := eq_true (by omega)
          (try rw [show ((0 : Int)).toNat = 0 from rfl] at hx203_0)
          (try rw [Addr.add_zero'] at hx203_0)
          replace p203 := eq_true p203
          replace q203 := eq_true q203
          go_wp2_with (first | (go_at_call 38; (with_reducible refine (tlv_head.calls (wrap64 (rd l0 0)) t212 _ A26.out).mono ?_); rintro e w' ⟨rfl, ⟨nd, rfl⟩⟩))
          go_ret3
          exact ⟨by first | rfl | (simp; done) | (simp [*]; done), by repeat (first | exact Drawn0.refl _ | apply Drawn0.step)⟩
         ·rw [if_neg c27] at H
          have c27b0 : (t212 == x3_3) = false := beq_eq_false_iff_ne.mpr c27
          have c27b1 : (t212 != x3_3) = true := bne_iff_ne.mpr c27
          simp only [Option.some.injEq, Prod.mk.injEq] at H
          obtain ⟨rfl, rfl, rfl⟩ := H
          have p203 : 0 ≤ (0 : Int) := (by omega)
          have q203 : 0 < (l0.length : Int) := of_decide_eq_true (by first | (with_reducible assumption) | assumption)
          obtain ⟨ad203, e203, hx203_0⟩ := Kd.at_int HR0.out 0 p203 q203
          obtain rfl : ad202 = ad203 := (by injection e203)
          have qi203 : (0 < l0.length) = True := eq_true (by omega)
          (try rw [show ((0 : Int)).toNat = 0 from rfl] at hx203_0)
          (try rw [Addr.add_zero'] at hx203_0)
          replace p203 := eq_true p203
          replace q203 := eq_true q203
          go_wp2_with (first | (go_at_call 38; (with_reducible refine (tlv_head.calls (wrap64 (rd l0 0)) t212 _ A26.out).mono ?_); rintro e w' ⟨rfl, ⟨nd, rfl⟩⟩))
          go_ret3
          exact ⟨by first | rfl | (simp; done) | (simp [*]; done), by repeat (first | exact Drawn0.refl _ | apply Drawn0.step)⟩
      ·rw [if_neg c8] at H
       exact absurd H (by simp)
  ·rw [if_neg c3] at H
   exact absurd H (by simp)

end Go.Proofs.Ytafbnfpabcaebaa.XT
