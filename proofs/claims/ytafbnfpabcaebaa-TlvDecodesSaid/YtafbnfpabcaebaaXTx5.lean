/- Written by xprint.py, a program of this session over the kit's print: what functions of the program come to, walked. -/
import Derived.Test.YtafbnfpabcaebaaXTx0
import Derived.Test.YtafbnfpabcaebaaXTx3
import Derived.Test.YtafbnfpabcaebaaXTx4
namespace Go.Proofs.Ytafbnfpabcaebaa.XT
open Go.RowKit Go.Proofs.YtafbnfpabcaebaaW.PrintWords Go.Proofs.YtafbnfpabcaebaaW.PrintLast Go.Proofs.YtafbnfpabcaebaaW.PrintMore
attribute [local go_sem] max2_int min2_int max_two min_two max_three min_three max_four min_four   -- for this text's walks alone
set_option linter.unusedVariables false
set_option linter.unusedSimpArgs false

/-! ### tlv_put: function 26 -/
mutual
def tlv_put.l0 : Nat → List Int → List (S26) → Int → Int → Option (List Int)
 | 0, _, _, _, _ => none
 | k + 1, x0, x8, x9, x10 => if x10 < x9 then (if 0 ≤ x10 then (if x10 < (x8.length : Int) then ((tlv_size.f k ((rd_T26 x8 x10).f2)).bind fun t114 => (if x0.length < 140737488355328 then ((some (x0 ++ [((rd_T26 x8 x10).f0) % 256] : List Int)).bind fun y115 => ((tlv_head.f (wrap64 ((((rd_T26 x8 x10).f1).length : Int) + t114))).bind fun t118 => (if t118 = 1 then (if y115.length < 140737488355328 then ((some (y115 ++ [(wrap64 ((((rd_T26 x8 x10).f1).length : Int) + t114)) % 256] : List Int)).bind fun y119 => (if y119.length + ((rd_T26 x8 x10).f1).length < 140737488355328 then ((tlv_put.f k (y119 ++ ((rd_T26 x8 x10).f1)) ((rd_T26 x8 x10).f2)).bind fun t125 => (tlv_put.l0 k t125 x8 x9 (wrap64 (x10 + 1)))) else (none))) else (none)) else (if t118 = 2 then ((some (([129, (wrap64 ((((rd_T26 x8 x10).f1).length : Int) + t114)) % 256] : List Int) : List Int)).bind fun y128 => (if y115.length + y128.length < 140737488355328 then ((some (y115 ++ y128 : List Int)).bind fun y131 => (if y131.length + ((rd_T26 x8 x10).f1).length < 140737488355328 then ((tlv_put.f k (y131 ++ ((rd_T26 x8 x10).f1)) ((rd_T26 x8 x10).f2)).bind fun t137 => (tlv_put.l0 k t137 x8 x9 (wrap64 (x10 + 1)))) else (none))) else (none))) else ((some (([130, ((wrap64 ((((rd_T26 x8 x10).f1).length : Int) + t114)) / 256) % 256, (wrap64 ((((rd_T26 x8 x10).f1).length : Int) + t114)) % 256] : List Int) : List Int)).bind fun y140 => (if y115.length + y140.length < 140737488355328 then ((some (y115 ++ y140 : List Int)).bind fun y143 => (if y143.length + ((rd_T26 x8 x10).f1).length < 140737488355328 then ((tlv_put.f k (y143 ++ ((rd_T26 x8 x10).f1)) ((rd_T26 x8 x10).f2)).bind fun t149 => (tlv_put.l0 k t149 x8 x9 (wrap64 (x10 + 1)))) else (none))) else (none))))))) else (none))) else (none)) else (none)) else (some x0)
def tlv_put.f : Nat → List Int → List (S26) → Option (List Int)
 | 0, _, _ => none
 | k + 1, l0, l1 => tlv_put.l0 k l0 l1 (l1.length : Int) 0
end
theorem tlv_put.mono_l : ∀ k, (∀ y0 y1, LeO (tlv_put.f k y0 y1) (tlv_put.f (k + 1) y0 y1)) ∧ (∀ y0 y1 y2 y3, LeO (tlv_put.l0 k y0 y1 y2 y3) (tlv_put.l0 (k + 1) y0 y1 y2 y3))
 | 0 => ⟨fun _ _ r h => by simp [tlv_put.f] at h, fun _ _ _ _ r h => by simp [tlv_put.l0] at h⟩
 | k + 1 => by
  obtain ⟨ih0, ih1⟩ := tlv_put.mono_l k
  refine ⟨?_, ?_⟩
  ·intro y0 y1
   unfold tlv_put.f
   repeat' first
   | (with_reducible exact ih0 _ _)
   | (with_reducible exact ih1 _ _ _ _)
   | (with_reducible exact tlv_size.mono _ _)
   | (with_reducible exact LeO.refl _)
   | (with_reducible exact LeO.none _)
   | (with_reducible refine LeO.ite ?_ ?_)
   | (with_reducible refine LeO.bind ?_ (fun _ => ?_))
   | exact ih0 _ _
   | exact ih1 _ _ _ _
   | exact tlv_size.mono _ _
   | exact LeO.none _
   | refine LeO.ite ?_ ?_
   | refine LeO.bind ?_ (fun _ => ?_)
  ·intro y0 y1 y2 y3
   unfold tlv_put.l0
   repeat' first
   | (with_reducible exact ih0 _ _)
   | (with_reducible exact ih1 _ _ _ _)
   | (with_reducible exact tlv_size.mono _ _)
   | (with_reducible exact LeO.refl _)
   | (with_reducible exact LeO.none _)
   | (with_reducible refine LeO.ite ?_ ?_)
   | (with_reducible refine LeO.bind ?_ (fun _ => ?_))
   | exact ih0 _ _
   | exact ih1 _ _ _ _
   | exact tlv_size.mono _ _
   | exact LeO.none _
   | refine LeO.ite ?_ ?_
   | refine LeO.bind ?_ (fun _ => ?_)
theorem tlv_put.mono : ∀ a0 a1 k, LeO (tlv_put.f k a0 a1) (tlv_put.f (k + 1) a0 a1) := by
 intro a0 a1 k
 obtain ⟨ih0, ih1⟩ := tlv_put.mono_l k
 exact ih0 a0 a1
def tlv_put.T4 : Bool × List (List Nat × List Nat) := (true, [([], []), ([0], [0]), ([1], [1]), ([], []), ([3], [3]), ([4], [4]), ([2, 5], [2, 5]), ([6, 5, 0, 1, 2, 3, 4, 5, 6], [6])])
def tlv_put.B4 : List Nat := [0, 1, 3, 0, 8, 24, 63, 127]
theorem tlv_put.tab4 : rtab .any (opsOf Try.f26 4) = tlv_put.T4 := by kernel_rfl
theorem tlv_put.bits4 : waitsOk tlv_put.T4.2 tlv_put.B4 = true := by kernel_rfl
def tlv_put.T12 : Bool × List (List Nat × List Nat) := (true, [([], []), ([], []), ([1], [1]), ([0, 2], [0, 2]), ([], []), ([4], [4]), ([3, 5, 3], [3, 5]), ([6, 6, 0, 1, 2, 3, 4, 5, 6], [0, 6])])
def tlv_put.B12 : List Nat := [0, 0, 2, 7, 0, 16, 63, 127]
theorem tlv_put.tab12 : rtab .any (opsOf Try.f26 12) = tlv_put.T12 := by kernel_rfl
theorem tlv_put.bits12 : waitsOk tlv_put.T12.2 tlv_put.B12 = true := by kernel_rfl
set_option maxHeartbeats 8000000 in
set_option maxRecDepth 100000 in
theorem tlv_put.calls (k : Nat) : ∀ (P0_ : Nat → Prop) (u9000_ : Value) (l0 : List Int) (P1_ : Nat → Prop) (A1 : Option Addr) (c1 : Nat) (l1 : List (S26)) (r : List Int) (w0 w : World) (hB : Below w0.heap.size w0 w) (ho0 : Kd.R (Kd.int .u8) 5 w w0.heap.size P0_ u9000_ l0) (hs1 : Kd.V k26 26 w w0.heap.size (fun k_ => P1_ k_ ∧ some k_ ≠ (u9000_ : Value).ownBlock) (.slice A1 l1.length c1) l1) (h : tlv_put.f k l0 l1 = some r),
  Calls Try.prog 26 #[u9000_, .slice A1 l1.length c1] w fun e w' => ∃ v0_ : Value, e = .returned (v0_) ∧ Kd.R (Kd.int .u8) 5 w' w0.heap.size (fun k_ => (P0_ k_ ∨ w.heap.size ≤ k_)) v0_ r ∧ Below w0.heap.size w0 w' ∧ Kept w w' (fun k_ => P0_ k_) := by
 induction k using Nat.strongRecOn with
 | _ k ih =>
 intro P0_ u9000_ l0 P1_ A1 c1 l1 r w0 w hB ho0 hs1 h
 cases k with
 | zero => exact absurd h (by simp [tlv_put.f])
 | succ k =>
 simp only [tlv_put.f] at h
 have hu26 := Try.underlying26
 have HO0 := Aside0.mk (show Kd.R (Kd.int .u8) 5 w w0.heap.size (fun k_ => (P0_ k_ ∨ w.heap.size ≤ k_)) u9000_ l0 from Kd.R_mono ho0 (fun k_ hk => (.inl hk)))
 have HO1 := Aside0.mk (show Kd.V k26 26 w w0.heap.size (fun k_ => ((P0_ k_ ∨ P1_ k_) ∨ w.heap.size ≤ k_) ∧ some k_ ≠ (u9000_ : Value).ownBlock) (.slice A1 l1.length c1) l1 from Kd.V_mono hs1 (fun k_ hk => ⟨.inl (.inr hk.1), hk.2⟩))
 have HK := Aside0.mk (Kept.refl w (fun k_ => P0_ k_))
 have HW0 := Aside0.mk hB.size
 have HB := Aside0.mk hB
 clear hB
 have H : (tlv_put.l0 k l0 l1 (l1.length : Int) 0) = some r := h
 clear h
 have H' := Aside0.mk H
 clear H
 go_enter Try.func26, Try.ntmps26
 go_wp2
 go_loopg [0, 10] k (fun kq v0 v10 w' => ∃ (x0_1 : List Int) (x10_1 : Int), v10 = .int .i64 x10_1 ∧ Aside0 (tlv_put.l0 kq x0_1 l1 (l1.length : Int) x10_1 = some r) ∧ Aside0 (kq ≤ k) ∧ Aside0 (Kd.R (Kd.int .u8) 5 w' w0.heap.size (fun k_ => (P0_ k_ ∨ w.heap.size ≤ k_)) v0 x0_1) ∧ Aside0 (Kd.V k26 26 w' w0.heap.size (fun k_ => ((P0_ k_ ∨ P1_ k_) ∨ w.heap.size ≤ k_) ∧ some k_ ≠ (v0 : Value).ownBlock) (.slice A1 l1.length c1) l1) ∧ Aside0 (Kept w w' (fun k_ => P0_ k_)) ∧ Aside0 (Below w0.heap.size w0 w'))
 case atStart => exact ⟨(l0), (0), (by first | rfl | (simp; done) | (simp [*]; done)), H', ⟨Nat.le_refl _⟩, ⟨by (with_reducible repeat (first | apply Kd.R_alloc | apply Kd.R_drewN | apply Kd.R_drew)); exact HO0.out⟩, ⟨by (with_reducible repeat (first | apply Kd.V_alloc | apply Kd.V_drewN | apply Kd.V_drew)); exact HO1.out⟩, ⟨by repeat (first | (with_reducible first | exact HK.out | apply Kept.alloc | apply Kept.drewN | apply Kept.drew) | exact HK.out)⟩, ⟨by repeat (first | (with_reducible first | exact HB.out | apply below_alloc | apply pw_below_drewN | apply below_drew1) | exact HB.out)⟩⟩
 case round =>
  clear H'
  try clear c1
  try clear c2
  try clear p2
  obtain ⟨x0_1, x10_1, rfl, HA, HK1, HO_0, HO_8, HK, HB⟩ := hrel
  cases gk with
  | zero => exact absurd HA.out (by simp [tlv_put.l0])
  | succ k1 =>
   have H := HA.out
   clear HA
   simp only [tlv_put.l0] at H
   by_cases c3 : x10_1 < (l1.length : Int)
   ·rw [if_pos c3] at H
    have c3b0 : decide (x10_1 < (l1.length : Int)) = true := decide_eq_true c3
    clear c3
    by_cases c4 : 0 ≤ x10_1
    ·rw [if_pos c4] at H
     have c4b0 : decide (0 ≤ x10_1) = true := decide_eq_true c4
     clear c4
     by_cases c5 : x10_1 < (l1.length : Int)
     ·rw [if_pos c5] at H
      have c5b0 : decide (x10_1 < (l1.length : Int)) = true := decide_eq_true c5
      clear c5
      replace H := Option.bind_eq_some_iff.mp H
      obtain ⟨t114, A60, H⟩ := H
      replace H : (if x0_1.length < 140737488355328 then ((some (x0_1 ++ [((rd_T26 l1 x10_1).f0) % 256] : List Int)).bind fun y115 => ((tlv_head.f (wrap64 ((((rd_T26 l1 x10_1).f1).length : Int) + t114))).bind fun t118 => (if t118 = 1 then (if y115.length < 140737488355328 then ((some (y115 ++ [(wrap64 ((((rd_T26 l1 x10_1).f1).length : Int) + t114)) % 256] : List Int)).bind fun y119 => (if y119.length + ((rd_T26 l1 x10_1).f1).length < 140737488355328 then ((tlv_put.f k1 (y119 ++ ((rd_T26 l1 x10_1).f1)) ((rd_T26 l1 x10_1).f2)).bind fun t125 => (tlv_put.l0 k1 t125 l1 (l1.length : Int) (wrap64 (x10_1 + 1)))) else (none))) else (none)) else (if t118 = 2 then ((some (([129, (wrap64 ((((rd_T26 l1 x10_1).f1).length : Int) + t114)) % 256] : List Int) : List Int)).bind fun y128 => (if y115.length + y128.length < 140737488355328 then ((some (y115 ++ y128 : List Int)).bind fun y131 => (if y131.length + ((rd_T26 l1 x10_1).f1).length < 140737488355328 then ((tlv_put.f k1 (y131 ++ ((rd_T26 l1 x10_1).f1)) ((rd_T26 l1 x10_1).f2)).bind fun t137 => (tlv_put.l0 k1 t137 l1 (l1.length : Int) (wrap64 (x10_1 + 1)))) else (none))) else (none))) else ((some (([130, ((wrap64 ((((rd_T26 l1 x10_1).f1).length : Int) + t114)) / 256) % 256, (wrap64 ((((rd_T26 l1 x10_1).f1).length : Int) + t114)) % 256] : List Int) : List Int)).bind fun y140 => (if y115.length + y140.length < 140737488355328 then ((some (y115 ++ y140 : List Int)).bind fun y143 => (if y143.length + ((rd_T26 l1 x10_1).f1).length < 140737488355328 then ((tlv_put.f k1 (y143 ++ ((rd_T26 l1 x10_1).f1)) ((rd_T26 l1 x10_1).f2)).bind fun t149 => (tlv_put.l0 k1 t149 l1 (l1.length : Int) (wrap64 (x10_1 + 1)))) else (none))) else (none))))))) else (none)) = some r := H
      have A6 := Aside0.mk A60
      clear A60
      by_cases c7 : x0_1.length < 140737488355328
      ·rw [if_pos c7] at H
       have LMc7 := Aside0.mk c7
       clear c7
       obtain ⟨y115, hy115⟩ : ∃ y_ : List Int, y_ = (x0_1 ++ [((rd_T26 l1 x10_1).f0) % 256]) := ⟨_, rfl⟩
       replace H : ((tlv_head.f (wrap64 ((((rd_T26 l1 x10_1).f1).length : Int) + t114))).bind fun t118 => (if t118 = 1 then (if y115.length < 140737488355328 then ((some (y115 ++ [(wrap64 ((((rd_T26 l1 x10_1).f1).length : Int) + t114)) % 256] : List Int)).bind fun y119 => (if y119.length + ((rd_T26 l1 x10_1).f1).length < 140737488355328 then ((tlv_put.f k1 (y119 ++ ((rd_T26 l1 x10_1).f1)) ((rd_T26 l1 x10_1).f2)).bind fun t125 => (tlv_put.l0 k1 t125 l1 (l1.length : Int) (wrap64 (x10_1 + 1)))) else (none))) else (none)) else (if t118 = 2 then ((some (([129, (wrap64 ((((rd_T26 l1 x10_1).f1).length : Int) + t114)) % 256] : List Int) : List Int)).bind fun y128 => (if y115.length + y128.length < 140737488355328 then ((some (y115 ++ y128 : List Int)).bind fun y131 => (if y131.length + ((rd_T26 l1 x10_1).f1).length < 140737488355328 then ((tlv_put.f k1 (y131 ++ ((rd_T26 l1 x10_1).f1)) ((rd_T26 l1 x10_1).f2)).bind fun t137 => (tlv_put.l0 k1 t137 l1 (l1.length : Int) (wrap64 (x10_1 + 1)))) else (none))) else (none))) else ((some (([130, ((wrap64 ((((rd_T26 l1 x10_1).f1).length : Int) + t114)) / 256) % 256, (wrap64 ((((rd_T26 l1 x10_1).f1).length : Int) + t114)) % 256] : List Int) : List Int)).bind fun y140 => (if y115.length + y140.length < 140737488355328 then ((some (y115 ++ y140 : List Int)).bind fun y143 => (if y143.length + ((rd_T26 l1 x10_1).f1).length < 140737488355328 then ((tlv_put.f k1 (y143 ++ ((rd_T26 l1 x10_1).f1)) ((rd_T26 l1 x10_1).f2)).bind fun t149 => (tlv_put.l0 k1 t149 l1 (l1.length : Int) (wrap64 (x10_1 + 1)))) else (none))) else (none)))))) = some r := by first | (rw [hy115]; with_reducible exact H) | (have H2_ := (Option.bind_some _ _).symm.trans H; rw [hy115]; with_reducible exact H2_) | (have H2_ := (Option.bind_some _ _).symm.trans H; with_reducible exact H2_) | with_reducible exact H | (rw [hy115]; exact H) | exact H
       have Ny115 := Aside0.mk hy115
       clear hy115
       replace H := Option.bind_eq_some_iff.mp H
       obtain ⟨t118, A80, H⟩ := H
       replace H : (if t118 = 1 then (if y115.length < 140737488355328 then ((some (y115 ++ [(wrap64 ((((rd_T26 l1 x10_1).f1).length : Int) + t114)) % 256] : List Int)).bind fun y119 => (if y119.length + ((rd_T26 l1 x10_1).f1).length < 140737488355328 then ((tlv_put.f k1 (y119 ++ ((rd_T26 l1 x10_1).f1)) ((rd_T26 l1 x10_1).f2)).bind fun t125 => (tlv_put.l0 k1 t125 l1 (l1.length : Int) (wrap64 (x10_1 + 1)))) else (none))) else (none)) else (if t118 = 2 then ((some (([129, (wrap64 ((((rd_T26 l1 x10_1).f1).length : Int) + t114)) % 256] : List Int) : List Int)).bind fun y128 => (if y115.length + y128.length < 140737488355328 then ((some (y115 ++ y128 : List Int)).bind fun y131 => (if y131.length + ((rd_T26 l1 x10_1).f1).length < 140737488355328 then ((tlv_put.f k1 (y131 ++ ((rd_T26 l1 x10_1).f1)) ((rd_T26 l1 x10_1).f2)).bind fun t137 => (tlv_put.l0 k1 t137 l1 (l1.length : Int) (wrap64 (x10_1 + 1)))) else (none))) else (none))) else ((some (([130, ((wrap64 ((((rd_T26 l1 x10_1).f1).length : Int) + t114)) / 256) % 256, (wrap64 ((((rd_T26 l1 x10_1).f1).length : Int) + t114)) % 256] : List Int) : List Int)).bind fun y140 => (if y115.length + y140.length < 140737488355328 then ((some (y115 ++ y140 : List Int)).bind fun y143 => (if y143.length + ((rd_T26 l1 x10_1).f1).length < 140737488355328 then ((tlv_put.f k1 (y143 ++ ((rd_T26 l1 x10_1).f1)) ((rd_T26 l1 x10_1).f2)).bind fun t149 => (tlv_put.l0 k1 t149 l1 (l1.length : Int) (wrap64 (x10_1 + 1)))) else (none))) else (none))))) = some r := H
       have A8 := Aside0.mk A80
       clear A80
       by_cases c9 : t118 = 1
       ·rw [if_pos c9] at H
        have c9b0 : (t118 == 1) = true := beq_iff_eq.mpr c9
        have c9b1 : (t118 != 1) = false := bne_eq_false_iff_eq.mpr c9
        clear c9
        by_cases c10 : y115.length < 140737488355328
        ·rw [if_pos c10] at H
         have LMc10 := Aside0.mk c10
         clear c10
         obtain ⟨y119, hy119⟩ : ∃ y_ : List Int, y_ = (y115 ++ [(wrap64 ((((rd_T26 l1 x10_1).f1).length : Int) + t114)) % 256]) := ⟨_, rfl⟩
         replace H : (if y119.length + ((rd_T26 l1 x10_1).f1).length < 140737488355328 then ((tlv_put.f k1 (y119 ++ ((rd_T26 l1 x10_1).f1)) ((rd_T26 l1 x10_1).f2)).bind fun t125 => (tlv_put.l0 k1 t125 l1 (l1.length : Int) (wrap64 (x10_1 + 1)))) else (none)) = some r := by first | (rw [hy119]; with_reducible exact H) | (have H2_ := (Option.bind_some _ _).symm.trans H; rw [hy119]; with_reducible exact H2_) | (have H2_ := (Option.bind_some _ _).symm.trans H; with_reducible exact H2_) | with_reducible exact H | (rw [hy119]; exact H) | exact H
         have Ny119 := Aside0.mk hy119
         clear hy119
         by_cases c11 : y119.length + ((rd_T26 l1 x10_1).f1).length < 140737488355328
         ·rw [if_pos c11] at H
          have LMc11 := Aside0.mk c11
          clear c11
          obtain ⟨y122, hy122⟩ : ∃ y_ : List Int, y_ = (y119 ++ ((rd_T26 l1 x10_1).f1)) := ⟨_, rfl⟩
          replace H : ((tlv_put.f k1 y122 ((rd_T26 l1 x10_1).f2)).bind fun t125 => (tlv_put.l0 k1 t125 l1 (l1.length : Int) (wrap64 (x10_1 + 1)))) = some r := by first | (rw [hy122]; with_reducible exact H) | (have H2_ := (Option.bind_some _ _).symm.trans H; rw [hy122]; with_reducible exact H2_) | (have H2_ := (Option.bind_some _ _).symm.trans H; with_reducible exact H2_) | with_reducible exact H | (rw [hy122]; exact H) | exact H
          have Ny122 := Aside0.mk hy122
          clear hy122
          replace H := Option.bind_eq_some_iff.mp H
          obtain ⟨t125, A120, H⟩ := H
          replace H : (tlv_put.l0 k1 t125 l1 (l1.length : Int) (wrap64 (x10_1 + 1))) = some r := H
          have A12 := Aside0.mk A120
          clear A120
          have H' := Aside0.mk H
          clear H
          have p112 : 0 ≤ (x10_1 : Int) := of_decide_eq_true (by first | (with_reducible assumption) | assumption)
          have q112 : x10_1 < (l1.length : Int) := of_decide_eq_true (by first | (with_reducible assumption) | assumption)
          obtain ⟨ad112, A112_1, c112_1, A112_2, c112_2, e112, hx112_0, hx112_1, hx112_2, hl112_1, hi112_1, hl112_2, hi112_2⟩ := at_T26 (Kd.V_reads' HO_8.out).2.2 x10_1 p112 q112
          cases e112
          obtain ⟨ce112, hce112, hMe112, hcc112⟩ := Kd.V_get HO_8.out z26 x10_1 p112 (by first | exact q112 | exact of_decide_eq_true (by first | (with_reducible assumption) | assumption) | (have e_ := (Kd.V_reads' HO_8.out).1; omega))
          obtain ⟨ua112_1, uc112_1, ua112_2, uc112_2, rfl, ul112_1, ge112_1, ul112_2, ge112_2⟩ := k26_openF hMe112
          have hv112_1 := hcc112 1 _ rfl
          rw [add_field _ _ 1 (by omega)] at hv112_1
          replace hv112_1 := Option.some.inj (hv112_1.symm.trans hx112_1)
          injection hv112_1 with hva_ hvn_ hvc_
          rw [hva_] at ge112_1
          rw [hvc_] at ul112_1
          have HL112_1 := Aside0.mk (show Kd.V (Kd.int .u8) 5 _ w0.heap.size _ _ ((rd_T26 l1 x10_1).f1) from Kd.V_mk ul112_1 ge112_1)
          clear hva_ hvn_ hvc_ ge112_1 ul112_1
          have hv112_2 := hcc112 2 _ rfl
          rw [add_field _ _ 2 (by omega)] at hv112_2
          replace hv112_2 := Option.some.inj (hv112_2.symm.trans hx112_2)
          injection hv112_2 with hva_ hvn_ hvc_
          rw [hva_] at ge112_2
          rw [hvc_] at ul112_2
          have HL112_2 := Aside0.mk (show Kd.V k26 26 _ w0.heap.size _ _ ((rd_T26 l1 x10_1).f2) from Kd.V_mk ul112_2 ge112_2)
          clear hva_ hvn_ hvc_ ge112_2 ul112_2
          clear hcc112 hce112
          have HR112_1 := Aside0.mk hi112_1
          have HC112_1 := Aside0.mk hl112_1
          clear hi112_1 hl112_1
          have HR112_2 := Aside0.mk hi112_2
          have HC112_2 := Aside0.mk hl112_2
          clear hi112_2 hl112_2
          replace p112 := eq_true p112
          replace q112 := eq_true q112
          try go_wp2_with (first | ((with_reducible refine gate_dst (N := 6) rfl ?_); refine box_event ?hg (N := 6) ?hd (cs := #[.int .i64 0, .slice none 0 0, .slice none 0 0]) (t := 26) ?hr ?_; (case hd => rfl); (case hg => rfl); (case hr => first | (go_simp; done) | (go_simp; rfl)); intro gb113 hg w13 hbox hb; have n0_ := Aside0.mk (Kd.R_below (by (with_reducible repeat (first | apply Kd.R_alloc | apply Kd.R_drewN | apply Kd.R_drew)); exact HO_0.out) hb); have n1_ := Aside0.mk (Kd.V_below (Kd.V_elderB (by (with_reducible repeat (first | apply Kd.V_alloc | apply Kd.V_drewN | apply Kd.V_drew)); exact HO_8.out) gb113 (Nat.le_of_eq hg.symm)) hb); have n2_ := Aside0.mk (Kd.V_below (Kd.V_elderB (by (with_reducible repeat (first | apply Kd.V_alloc | apply Kd.V_drewN | apply Kd.V_drew)); exact HL112_1.out) gb113 (Nat.le_of_eq hg.symm)) hb); have n3_ := Aside0.mk (Kd.V_below (Kd.V_elderB (by (with_reducible repeat (first | apply Kd.V_alloc | apply Kd.V_drewN | apply Kd.V_drew)); exact HL112_2.out) gb113 (Nat.le_of_eq hg.symm)) hb); have n4_ := Aside0.mk (Kd.C_below (by repeat (first | (with_reducible exact HR112_1.out) | (with_reducible refine Kd.C_alloc ?_ _) | (with_reducible refine Kd.C_drewN ?_ _) | (with_reducible refine Kd.C_drew ?_) | exact HR112_1.out)) hb); have n5_ := Aside0.mk (Kd.C_below (by repeat (first | (with_reducible exact HR112_2.out) | (with_reducible refine Kd.C_alloc ?_ _) | (with_reducible refine Kd.C_drewN ?_ _) | (with_reducible refine Kd.C_drew ?_) | exact HR112_2.out)) hb); have n6_ := Aside0.mk (Kept.below (S := (fun k_ => P0_ k_)) (by repeat (first | (with_reducible first | exact HK.out | apply Kept.alloc | apply Kept.drewN | apply Kept.drew) | exact HK.out)) hb); have n7_ := Aside0.mk (below_step (by repeat (first | (with_reducible first | exact HB.out | apply below_alloc | apply pw_below_drewN | apply below_drew1) | exact HB.out)) hb); have n8_ := Aside0.mk (hbox); have n9_ := Aside0.mk ((by rw [hg]; exact (by first | exact HK.out.1 | exact (show Kept w _ (fun k_ => P0_ k_) from by repeat (first | (with_reducible first | exact HK.out | apply Kept.alloc | apply Kept.drewN | apply Kept.drew) | exact HK.out)).1) : w.heap.size ≤ gb113)); have n10_ := Aside0.mk ((by rw [hg]; exact (below_size (by repeat (first | (with_reducible first | exact HB.out | apply below_alloc | apply pw_below_drewN | apply below_drew1) | exact HB.out))) : w0.heap.size ≤ gb113)); clear HO_0; clear HO_8; clear HL112_1; clear HL112_2; clear HR112_1; clear HR112_2; clear HK; clear HB; have HO_0 := n0_; have HO_8 := n1_; have HL112_1 := n2_; have HL112_2 := n3_; have HR112_1 := n4_; have HR112_2 := n5_; have HK := n6_; have HB := n7_; have BK113 := n8_; have GW113 := n9_; have GE113 := n10_; clear n0_ n1_ n2_ n3_ n4_ n5_ n6_ n7_ n8_ n9_ n10_; clear hb hbox hg; have hcz14_0 : w13.cell? ⟨gb113, 0, none⟩ = some (.int .i64 0) := (blk_cell BK113.out 0).trans rfl; have hcz14_1 : w13.cell? ⟨gb113, 1, none⟩ = some (.slice none 0 0) := (blk_cell BK113.out 1).trans rfl; have hcz14_2 : w13.cell? ⟨gb113, 2, none⟩ = some (.slice none 0 0) := (blk_cell BK113.out 2).trans rfl; have hfz14_0 := blk_frozen BK113.out 0; have hfz14_1 := blk_frozen BK113.out 1; have hfz14_2 := blk_frozen BK113.out 2))
          have n0_ : Aside0 (Kd.R (Kd.int .u8) 5 (((w13.setCell ⟨gb113, 0, none⟩ (.int .i64 ((rd_T26 l1 x10_1).f0))).setCell ⟨gb113, 1, none⟩ (.slice A112_1 ((rd_T26 l1 x10_1).f1).length c112_1)).setCell ⟨gb113, 2, none⟩ (.slice A112_2 ((rd_T26 l1 x10_1).f2).length c112_2)) w0.heap.size (fun k_ => (P0_ k_ ∨ w.heap.size ≤ k_)) u0 x0_1) := ⟨by (with_reducible repeat (first | apply Kd.R_alloc | apply Kd.R_drewN | apply Kd.R_drew)); exact Kd.R_mono (Kd.R_far (p := ⟨gb113, 2, none⟩) (Kd.R_far (p := ⟨gb113, 1, none⟩) (Kd.R_far (p := ⟨gb113, 0, none⟩) (Kd.R_types HO_0.out BK113.out (by decide)) (fun _ hk => hk.2) (.int .i64 ((rd_T26 l1 x10_1).f0))) (fun _ hk => hk.2) (.slice A112_1 ((rd_T26 l1 x10_1).f1).length c112_1)) (fun _ hk => hk.2) (.slice A112_2 ((rd_T26 l1 x10_1).f2).length c112_2)) (fun _ hk => hk.1)⟩
          have n1_ : Aside0 (Kd.V k26 26 (((w13.setCell ⟨gb113, 0, none⟩ (.int .i64 ((rd_T26 l1 x10_1).f0))).setCell ⟨gb113, 1, none⟩ (.slice A112_1 ((rd_T26 l1 x10_1).f1).length c112_1)).setCell ⟨gb113, 2, none⟩ (.slice A112_2 ((rd_T26 l1 x10_1).f2).length c112_2)) w0.heap.size (fun k_ => ((P0_ k_ ∨ P1_ k_) ∨ w.heap.size ≤ k_) ∧ some k_ ≠ (u0 : Value).ownBlock ∧ k_ ≠ gb113) (.slice (some ad112) l1.length c1) l1) := ⟨by (with_reducible repeat (first | apply Kd.V_alloc | apply Kd.V_drewN | apply Kd.V_drew)); exact Kd.V_mono (Kd.V_far (p := ⟨gb113, 2, none⟩) (Kd.V_far (p := ⟨gb113, 1, none⟩) (Kd.V_far (p := ⟨gb113, 0, none⟩) (Kd.V_mono HO_8.out (fun k_ hk => (⟨hk, hk.2⟩ : _ ∧ k_ ≠ gb113))) (fun _ hk => hk.2) (.int .i64 ((rd_T26 l1 x10_1).f0))) (fun _ hk => hk.2) (.slice A112_1 ((rd_T26 l1 x10_1).f1).length c112_1)) (fun _ hk => hk.2) (.slice A112_2 ((rd_T26 l1 x10_1).f2).length c112_2)) (fun _ hk => ⟨hk.1.1.1, ⟨hk.1.1.2, hk.1.2⟩⟩)⟩
          have n2_ : Aside0 (Kd.V (Kd.int .u8) 5 (((w13.setCell ⟨gb113, 0, none⟩ (.int .i64 ((rd_T26 l1 x10_1).f0))).setCell ⟨gb113, 1, none⟩ (.slice A112_1 ((rd_T26 l1 x10_1).f1).length c112_1)).setCell ⟨gb113, 2, none⟩ (.slice A112_2 ((rd_T26 l1 x10_1).f2).length c112_2)) w0.heap.size (fun k_ => ((P0_ k_ ∨ P1_ k_) ∨ w.heap.size ≤ k_) ∧ some k_ ≠ (u0 : Value).ownBlock ∧ k_ ≠ gb113) (.slice A112_1 ((rd_T26 l1 x10_1).f1).length c112_1) ((rd_T26 l1 x10_1).f1)) := ⟨by (with_reducible repeat (first | apply Kd.V_alloc | apply Kd.V_drewN | apply Kd.V_drew)); exact Kd.V_mono (Kd.V_far (p := ⟨gb113, 2, none⟩) (Kd.V_far (p := ⟨gb113, 1, none⟩) (Kd.V_far (p := ⟨gb113, 0, none⟩) (Kd.V_mono HL112_1.out (fun k_ hk => (⟨hk, hk.2⟩ : _ ∧ k_ ≠ gb113))) (fun _ hk => hk.2) (.int .i64 ((rd_T26 l1 x10_1).f0))) (fun _ hk => hk.2) (.slice A112_1 ((rd_T26 l1 x10_1).f1).length c112_1)) (fun _ hk => hk.2) (.slice A112_2 ((rd_T26 l1 x10_1).f2).length c112_2)) (fun _ hk => ⟨hk.1.1.1, ⟨hk.1.1.2, hk.1.2⟩⟩)⟩
          have n3_ : Aside0 (Kd.V k26 26 (((w13.setCell ⟨gb113, 0, none⟩ (.int .i64 ((rd_T26 l1 x10_1).f0))).setCell ⟨gb113, 1, none⟩ (.slice A112_1 ((rd_T26 l1 x10_1).f1).length c112_1)).setCell ⟨gb113, 2, none⟩ (.slice A112_2 ((rd_T26 l1 x10_1).f2).length c112_2)) w0.heap.size (fun k_ => ((P0_ k_ ∨ P1_ k_) ∨ w.heap.size ≤ k_) ∧ some k_ ≠ (u0 : Value).ownBlock ∧ k_ ≠ gb113) (.slice A112_2 ((rd_T26 l1 x10_1).f2).length c112_2) ((rd_T26 l1 x10_1).f2)) := ⟨by (with_reducible repeat (first | apply Kd.V_alloc | apply Kd.V_drewN | apply Kd.V_drew)); exact Kd.V_mono (Kd.V_far (p := ⟨gb113, 2, none⟩) (Kd.V_far (p := ⟨gb113, 1, none⟩) (Kd.V_far (p := ⟨gb113, 0, none⟩) (Kd.V_mono HL112_2.out (fun k_ hk => (⟨hk, hk.2⟩ : _ ∧ k_ ≠ gb113))) (fun _ hk => hk.2) (.int .i64 ((rd_T26 l1 x10_1).f0))) (fun _ hk => hk.2) (.slice A112_1 ((rd_T26 l1 x10_1).f1).length c112_1)) (fun _ hk => hk.2) (.slice A112_2 ((rd_T26 l1 x10_1).f2).length c112_2)) (fun _ hk => ⟨hk.1.1.1, ⟨hk.1.1.2, hk.1.2⟩⟩)⟩
          have n4_ : Aside0 ((((w13.setCell ⟨gb113, 0, none⟩ (.int .i64 ((rd_T26 l1 x10_1).f0))).setCell ⟨gb113, 1, none⟩ (.slice A112_1 ((rd_T26 l1 x10_1).f1).length c112_1)).setCell ⟨gb113, 2, none⟩ (.slice A112_2 ((rd_T26 l1 x10_1).f2).length c112_2)).heap[gb113]? = some (.cells #[.int .i64 ((rd_T26 l1 x10_1).f0), .slice A112_1 ((rd_T26 l1 x10_1).f1).length c112_1, .slice A112_2 ((rd_T26 l1 x10_1).f2).length c112_2] 26 (0, 0))) := ⟨by (with_reducible repeat (first | refine blk_drewN ?_ _ | refine blk_drew ?_ | refine blk_alloc ?_ _)); refine blk_put (cs := #[.int .i64 ((rd_T26 l1 x10_1).f0), .slice A112_1 ((rd_T26 l1 x10_1).f1).length c112_1, .slice none 0 0]) ?_ 2 _ rfl; (with_reducible repeat (first | refine blk_drewN ?_ _ | refine blk_drew ?_ | refine blk_alloc ?_ _)); refine blk_put (cs := #[.int .i64 ((rd_T26 l1 x10_1).f0), .slice none 0 0, .slice none 0 0]) ?_ 1 _ rfl; (with_reducible repeat (first | refine blk_drewN ?_ _ | refine blk_drew ?_ | refine blk_alloc ?_ _)); refine blk_put (cs := #[.int .i64 0, .slice none 0 0, .slice none 0 0]) ?_ 0 _ rfl; (with_reducible repeat (first | refine blk_drewN ?_ _ | refine blk_drew ?_ | refine blk_alloc ?_ _)); exact BK113.out⟩
          have n5_ : Aside0 (Kept w (((w13.setCell ⟨gb113, 0, none⟩ (.int .i64 ((rd_T26 l1 x10_1).f0))).setCell ⟨gb113, 1, none⟩ (.slice A112_1 ((rd_T26 l1 x10_1).f1).length c112_1)).setCell ⟨gb113, 2, none⟩ (.slice A112_2 ((rd_T26 l1 x10_1).f2).length c112_2)) (fun k_ => P0_ k_)) := ⟨by repeat (first | (with_reducible first | exact HK.out | apply Kept.alloc | apply Kept.drewN | apply Kept.drew | refine Kept.setCell ?_ (.inr GW113.out) _) | exact HK.out)⟩
          have n6_ : Aside0 (Below w0.heap.size w0 (((w13.setCell ⟨gb113, 0, none⟩ (.int .i64 ((rd_T26 l1 x10_1).f0))).setCell ⟨gb113, 1, none⟩ (.slice A112_1 ((rd_T26 l1 x10_1).f1).length c112_1)).setCell ⟨gb113, 2, none⟩ (.slice A112_2 ((rd_T26 l1 x10_1).f2).length c112_2))) := ⟨by repeat (first | (with_reducible first | exact HB.out | apply below_alloc | apply pw_below_drewN | apply below_drew1 | refine below_set ?_ GE113.out) | exact HB.out)⟩
          (try clear HO_0)
          (try clear HO_8)
          (try clear HL112_1)
          (try clear HL112_2)
          (try clear BK113)
          (try clear HK)
          (try clear HB)
          generalize (((w13.setCell ⟨gb113, 0, none⟩ (.int .i64 ((rd_T26 l1 x10_1).f0))).setCell ⟨gb113, 1, none⟩ (.slice A112_1 ((rd_T26 l1 x10_1).f1).length c112_1)).setCell ⟨gb113, 2, none⟩ (.slice A112_2 ((rd_T26 l1 x10_1).f2).length c112_2)) = w15 at n0_ n1_ n2_ n3_ n4_ n5_ n6_ ⊢
          have HO_0 := n0_
          have HO_8 := n1_
          have HL112_1 := n2_
          have HL112_2 := n3_
          have BK113 := n4_
          have HK := n5_
          have HB := n6_
          clear n0_ n1_ n2_ n3_ n4_ n5_ n6_
          have n0_ := Aside0.mk (Kd.R_drew HO_0.out)
          have n1_ := Aside0.mk (Kd.V_drew HO_8.out)
          have n2_ := Aside0.mk (Kd.V_drew HL112_1.out)
          have n3_ := Aside0.mk (Kd.V_drew HL112_2.out)
          have n4_ := Aside0.mk (blk_drew BK113.out)
          have n5_ := Aside0.mk (Kept.drew HK.out)
          have n6_ := Aside0.mk (below_drew1 HB.out)
          clear HO_0
          clear HO_8
          clear HL112_1
          clear HL112_2
          clear BK113
          clear HK
          clear HB
          have HO_0 := n0_
          have HO_8 := n1_
          have HL112_1 := n2_
          have HL112_2 := n3_
          have BK113 := n4_
          have HK := n5_
          have HB := n6_
          clear n0_ n1_ n2_ n3_ n4_ n5_ n6_
          refine start_ (n := 8) (S := fun w' => w'.cell? ⟨gb113, 0, none⟩ = some (.int .i64 ((rd_T26 l1 x10_1).f0)) ∧ w'.cell? ⟨gb113, 1, none⟩ = some (.slice A112_1 ((rd_T26 l1 x10_1).f1).length c112_1) ∧ w'.cell? ⟨gb113, 2, none⟩ = some (.slice A112_2 ((rd_T26 l1 x10_1).f2).length c112_2)) (ds := []) #[false, false, false, false, false, false, false, false] (by kernel_rfl) rfl rfl ⟨(blk_cell BK113.out 0).trans rfl, (blk_cell BK113.out 1).trans rfl, (blk_cell BK113.out 2).trans rfl⟩ (fun hHeld => ?_); refine with_tabW tlv_put.tab4 tlv_put.bits4 (fun HT_ HW_ => ?_)
          generalize w15.drew = w16 at HO_0 HO_8 HL112_1 HL112_2 BK113 HK HB hHeld ⊢
          refine pure_ (i := 0) (N := some 14) (v := ?_) (a' := ?_) #[true, false, false, false, false, false, false, false] rfl rfl (any_of HT_.out (by kernel_rfl)) (fun _ _ _ h => h) (Or.inl ⟨by rfl, ?_⟩) ?_ ?_
          rotate_left
          ·intro w'
           go_simp
           with_reducible rfl
          rotate_left
          ·simp only [Act.put, List.setIfInBounds_toArray, List.set_cons_zero, List.set_cons_succ, i64_w, i32_w]
           rfl
          refine pure_ (i := 3) (N := some 17) (v := ?_) (a' := ?_) #[true, false, false, true, false, false, false, false] rfl rfl (any_of HT_.out (by kernel_rfl)) (fun _ _ _ h => h) (Or.inl ⟨by rfl, ?_⟩) ?_ ?_
          rotate_left
          ·intro w'
           go_simp
           with_reducible rfl
          rotate_left
          ·simp only [Act.put, List.setIfInBounds_toArray, List.set_cons_zero, List.set_cons_succ, i64_w, i32_w]
           rfl
          refine take_ (i := 1) (N := some 15) (v := ?_) (a' := ?_) #[true, true, false, true, false, false, false, false] rfl rfl (take_ofW HT_.out HW_.out (by kernel_rfl)) (fun _ _ _ h => h) (Or.inl ⟨by rfl, ?_⟩) hHeld ?_ ?_
          rotate_left
          ·rintro w' ⟨s0, s1, s2⟩
           go_simp
           with_reducible rfl
          rotate_left
          ·simp only [Act.put, List.setIfInBounds_toArray, List.set_cons_zero, List.set_cons_succ, i64_w, i32_w]
           rfl
          refine pure_ (i := 2) (N := some 16) (v := ?_) (a' := ?_) #[true, true, true, true, false, false, false, false] rfl rfl (any_of HT_.out (by kernel_rfl)) (fun _ _ _ h => h) (Or.inl ⟨by rfl, ?_⟩) ?_ ?_
          rotate_left
          ·intro w'
           go_simp
           with_reducible rfl
          rotate_left
          ·simp only [Act.put, List.setIfInBounds_toArray, List.set_cons_zero, List.set_cons_succ, i64_w, i32_w]
           rfl
          refine take_ (i := 4) (N := some 18) (v := ?_) (a' := ?_) #[true, true, true, true, true, false, false, false] rfl rfl (take_ofW HT_.out HW_.out (by kernel_rfl)) (fun _ _ _ h => h) (Or.inl ⟨by rfl, ?_⟩) hHeld ?_ ?_
          rotate_left
          ·rintro w' ⟨s0, s1, s2⟩
           go_simp
           with_reducible rfl
          rotate_left
          ·simp only [Act.put, List.setIfInBounds_toArray, List.set_cons_zero, List.set_cons_succ, i64_w, i32_w]
           rfl
          refine one_ (i := 5) (N := some 19) #[true, true, true, true, true, true, false, false] rfl rfl (one_of HT_.out (by kernel_rfl)) (by decide) (fun K hK => ?_)
          refine goes_ Try.func25 (by kernel_rfl) rfl #[.slice A112_2 ((rd_T26 l1 x10_1).f2).length c112_2] (by rfl) rfl rfl (by (try simp only [List.map_toArray, List.map_cons, List.map_nil]); first | done | rfl | (simp only [List.length_drop, List.length_take]; rfl)) ?_
          with_reducible refine (tlv_size.calls k1 _ _ ((rd_T26 l1 x10_1).f2) t114 _ ?side1 ?side2 A6.out).mono ?_
          (case side1 => repeat (first | exact ((Kd.V_reads' (by (with_reducible repeat (first | apply Kd.V_alloc | apply Kd.V_drewN | apply Kd.V_drew)); exact HL112_2.out)).2.2) | (with_reducible refine Kd.C_alloc ?_ _) | (with_reducible refine Kd.C_drewN ?_ _) | (with_reducible refine Kd.C_drew ?_)))
          (case side2 => exact HC112_2.out)
          rintro e w17 ⟨rfl, hb⟩
          refine ⟨_, rfl, ?_⟩
          have n0_ := Aside0.mk (Kd.R_below (by (with_reducible repeat (first | apply Kd.R_alloc | apply Kd.R_drewN | apply Kd.R_drew)); exact HO_0.out) hb)
          have n1_ := Aside0.mk (Kd.V_below (by (with_reducible repeat (first | apply Kd.V_alloc | apply Kd.V_drewN | apply Kd.V_drew)); exact HO_8.out) hb)
          have n2_ := Aside0.mk (Kd.V_below (by (with_reducible repeat (first | apply Kd.V_alloc | apply Kd.V_drewN | apply Kd.V_drew)); exact HL112_1.out) hb)
          have n3_ := Aside0.mk (Kd.V_below (by (with_reducible repeat (first | apply Kd.V_alloc | apply Kd.V_drewN | apply Kd.V_drew)); exact HL112_2.out) hb)
          have n4_ := Aside0.mk (blk_below (g := gb113) (o := .cells #[.int .i64 ((rd_T26 l1 x10_1).f0), .slice A112_1 ((rd_T26 l1 x10_1).f1).length c112_1, .slice A112_2 ((rd_T26 l1 x10_1).f2).length c112_2] 26 (0, 0)) (by (with_reducible repeat (first | refine blk_drewN ?_ _ | refine blk_drew ?_ | refine blk_alloc ?_ _)); exact BK113.out) hb)
          have n5_ := Aside0.mk (Kept.below (S := (fun k_ => P0_ k_)) (by repeat (first | (with_reducible first | exact HK.out | apply Kept.alloc | apply Kept.drewN | apply Kept.drew | refine Kept.setCell ?_ (.inr GW113.out) _) | exact HK.out)) hb)
          have n6_ := Aside0.mk (below_step (by repeat (first | (with_reducible first | exact HB.out | apply below_alloc | apply pw_below_drewN | apply below_drew1 | refine below_set ?_ GE113.out) | exact HB.out)) hb)
          clear HO_0
          clear HO_8
          clear HL112_1
          clear HL112_2
          clear BK113
          clear HK
          clear HB
          have HO_0 := n0_
          have HO_8 := n1_
          have HL112_1 := n2_
          have HL112_2 := n3_
          have BK113 := n4_
          have HK := n5_
          have HB := n6_
          clear n0_ n1_ n2_ n3_ n4_ n5_ n6_
          (try clear hb)
          (try clear hb2)
          (try clear hk)
          (try clear hi)
          refine hK.out _ _ ⟨(blk_cell BK113.out 0).trans rfl, (blk_cell BK113.out 1).trans rfl, (blk_cell BK113.out 2).trans rfl⟩ (fun hHeld => ?_)
          clear hK K
          refine norm_ (a' := ?_) ?_ ?_
          rotate_left
          ·show Act.put _ (some 19) _ = _
           simp only [Act.put, List.setIfInBounds_toArray, List.set_cons_zero, List.set_cons_succ, i64_w, i32_w]
           rfl
          refine pure_ (i := 6) (N := some 20) (v := ?_) (a' := ?_) #[true, true, true, true, true, true, true, false] rfl rfl (any_of HT_.out (by kernel_rfl)) (fun _ _ _ h => h) (Or.inl ⟨by rfl, ?_⟩) ?_ ?_
          rotate_left
          ·intro w'
           go_simp
           with_reducible rfl
          rotate_left
          ·simp only [Act.put, List.setIfInBounds_toArray, List.set_cons_zero, List.set_cons_succ, i64_w, i32_w]
           rfl
          refine pure_ (i := 7) (N := some 7) (v := ?_) (a' := ?_) #[true, true, true, true, true, true, true, true] rfl rfl (any_of HT_.out (by kernel_rfl)) (fun _ _ _ h => h) (Or.inl ⟨by rfl, ?_⟩) ?_ ?_
          rotate_left
          ·intro w'
           go_simp
           with_reducible rfl
          rotate_left
          ·simp only [Act.put, List.setIfInBounds_toArray, List.set_cons_zero, List.set_cons_succ, i64_w, i32_w]
           rfl
          refine done_ (done_of HT_.out (by kernel_rfl)) ?_
          have hcz18_0 : w17.cell? ⟨gb113, 0, none⟩ = some (.int .i64 ((rd_T26 l1 x10_1).f0)) := (blk_cell BK113.out 0).trans rfl
          have hcz18_1 : w17.cell? ⟨gb113, 1, none⟩ = some (.slice A112_1 ((rd_T26 l1 x10_1).f1).length c112_1) := (blk_cell BK113.out 1).trans rfl
          have hcz18_2 : w17.cell? ⟨gb113, 2, none⟩ = some (.slice A112_2 ((rd_T26 l1 x10_1).f2).length c112_2) := (blk_cell BK113.out 2).trans rfl
          have hfz18_0 := blk_frozen BK113.out 0
          have hfz18_1 := blk_frozen BK113.out 1
          have hfz18_2 := blk_frozen BK113.out 2
          try go_wp2_with (first | ((with_reducible refine gate_builtin (b := .append) (xs := #[.tmp 21, .tmp 25]) rfl ?_); at_builtin; refine Kd.R_append (Kd.int .u8) (w0 := w0) w0.heap.size rfl (.tmp 21) (.tmp 25) 22 5 (.int .u8 0) 1 rfl Try.underlying22 info5 rfl (by decide) (by omega) u0 x0_1 (((rd_T26 l1 x10_1).f0) % 256) [.int .u8 (((rd_T26 l1 x10_1).f0) % 256)] (fun k_ => (P0_ k_ ∨ w.heap.size ≤ k_)) (fun _ => False) rfl rfl ?aP (fun _ hk => hk.elim) ?aF ?aO ?aB ?aS ?aL ?_; (case aP => exact rfl); (case aB => exact (by repeat (first | (with_reducible first | exact HB.out | apply below_alloc | apply pw_below_drewN | apply below_drew1 | refine below_set ?_ GE113.out) | exact HB.out))); (case aF => exact (fun k_ hk => (.inr (Nat.le_trans (by first | exact HK.out.1 | exact (show Kept w _ (fun k_ => P0_ k_) from by repeat (first | (with_reducible first | exact HK.out | apply Kept.alloc | apply Kept.drewN | apply Kept.drew | refine Kept.setCell ?_ (.inr GW113.out) _) | exact HK.out)).1) hk)))); (case aO => exact (by (with_reducible repeat (first | apply Kd.R_alloc | apply Kd.R_drewN | apply Kd.R_drew)); exact HO_0.out)); (case aS => exact (below_size (by repeat (first | (with_reducible first | exact HB.out | apply below_alloc | apply pw_below_drewN | apply below_drew1 | refine below_set ?_ GE113.out) | exact HB.out)))); (case aL => have := LMc7.out; omega); intro v116 w19 ho hb hg hat; rw [← Ny115.out] at ho; have n0_ := Aside0.mk (Kd.V_afterv (ok := (fun k_ => ((P0_ k_ ∨ P1_ k_) ∨ w.heap.size ≤ k_) ∧ k_ ≠ gb113)) (by (with_reducible repeat (first | apply Kd.V_alloc | apply Kd.V_drewN | apply Kd.V_drew)); exact Kd.V_mono HO_8.out (fun _ hk => ⟨⟨hk.1, hk.2.2⟩, hk.2.1⟩)) hg hat); have n1_ := Aside0.mk (Kd.V_afterv (ok := (fun k_ => ((P0_ k_ ∨ P1_ k_) ∨ w.heap.size ≤ k_) ∧ k_ ≠ gb113)) (by (with_reducible repeat (first | apply Kd.V_alloc | apply Kd.V_drewN | apply Kd.V_drew)); exact Kd.V_mono HL112_1.out (fun _ hk => ⟨⟨hk.1, hk.2.2⟩, hk.2.1⟩)) hg hat); have n2_ := Aside0.mk (Kd.V_afterv (ok := (fun k_ => ((P0_ k_ ∨ P1_ k_) ∨ w.heap.size ≤ k_) ∧ k_ ≠ gb113)) (by (with_reducible repeat (first | apply Kd.V_alloc | apply Kd.V_drewN | apply Kd.V_drew)); exact Kd.V_mono HL112_2.out (fun _ hk => ⟨⟨hk.1, hk.2.2⟩, hk.2.1⟩)) hg hat); have n3_ := Aside0.mk (blk_grown (g := gb113) (o := .cells #[.int .i64 ((rd_T26 l1 x10_1).f0), .slice A112_1 ((rd_T26 l1 x10_1).f1).length c112_1, .slice A112_2 ((rd_T26 l1 x10_1).f2).length c112_2] 26 (0, 0)) (by (with_reducible repeat (first | refine blk_drewN ?_ _ | refine blk_drew ?_ | refine blk_alloc ?_ _)); exact BK113.out) hg (Kd.R_ne HO_0.out BK113.out (by decide))); have n4_ := Aside0.mk (hb); have n5_ := Aside0.mk (Kept.of_grown (S := (fun k_ => P0_ k_)) hg (by repeat (first | (with_reducible first | exact HK.out | apply Kept.alloc | apply Kept.drewN | apply Kept.drew | refine Kept.setCell ?_ (.inr GW113.out) _) | exact HK.out)) (fun k_ e_ => (HO_0.out.1 k_ e_))); have n6_ := Aside0.mk (ho); clear HO_8; clear HL112_1; clear HL112_2; clear BK113; clear HB; clear HK; clear HO_0; have HO_8 := n0_; have HL112_1 := n1_; have HL112_2 := n2_; have BK113 := n3_; have HB := n4_; have HK := n5_; have HO117 := n6_; clear n0_ n1_ n2_ n3_ n4_ n5_ n6_; clear ho hb hg hat) | ((with_reducible refine gate_callee (f := 38) rfl ?_); refine goesL_ (some 28) rfl rfl Try.func38 (by kernel_rfl) rfl #[.int .i64 (wrap64 ((((rd_T26 l1 x10_1).f1).length : Int) + t114))] rfl (by (try simp only [List.map_toArray, List.map_cons, List.map_nil]); first | done | rfl | (simp only [List.length_drop, List.length_take]; rfl)) ?_; (with_reducible refine (tlv_head.calls (wrap64 ((((rd_T26 l1 x10_1).f1).length : Int) + t114)) t118 _ A8.out).mono ?_); rintro e w' ⟨rfl, ⟨nd, rfl⟩⟩; refine ⟨_, rfl, ?_⟩) | ((with_reducible refine gate_builtin (b := .append) (xs := #[.tmp 39, .tmp 42]) rfl ?_); at_builtin; refine Kd.R_append (Kd.int .u8) (w0 := w0) w0.heap.size rfl (.tmp 39) (.tmp 42) 22 5 (.int .u8 0) 1 rfl Try.underlying22 info5 rfl (by decide) (by omega) v116 y115 ((wrap64 ((((rd_T26 l1 x10_1).f1).length : Int) + t114)) % 256) [.int .u8 ((wrap64 ((((rd_T26 l1 x10_1).f1).length : Int) + t114)) % 256)] (fun k_ => (P0_ k_ ∨ w.heap.size ≤ k_)) (fun _ => False) rfl rfl ?aP (fun _ hk => hk.elim) ?aF ?aO ?aB ?aS ?aL ?_; (case aP => exact rfl); (case aB => exact (by repeat (first | (with_reducible first | exact HB.out | apply below_alloc | apply pw_below_drewN | apply below_drew1 | refine below_set ?_ GE113.out) | exact HB.out))); (case aF => exact (fun k_ hk => (.inr (Nat.le_trans (by first | exact HK.out.1 | exact (show Kept w _ (fun k_ => P0_ k_) from by repeat (first | (with_reducible first | exact HK.out | apply Kept.alloc | apply Kept.drewN | apply Kept.drew | refine Kept.setCell ?_ (.inr GW113.out) _) | exact HK.out)).1) hk)))); (case aO => exact (by (with_reducible repeat (first | apply Kd.R_alloc | apply Kd.R_drewN | apply Kd.R_drew)); exact HO117.out)); (case aS => exact (below_size (by repeat (first | (with_reducible first | exact HB.out | apply below_alloc | apply pw_below_drewN | apply below_drew1 | refine below_set ?_ GE113.out) | exact HB.out)))); (case aL => have := LMc10.out; omega); intro v120 w20 ho hb hg hat; rw [← Ny119.out] at ho; have n0_ := Aside0.mk (Kd.V_afterv (ok := (fun k_ => ((P0_ k_ ∨ P1_ k_) ∨ w.heap.size ≤ k_) ∧ k_ ≠ gb113)) (by (with_reducible repeat (first | apply Kd.V_alloc | apply Kd.V_drewN | apply Kd.V_drew)); exact HO_8.out) hg hat); have n1_ := Aside0.mk (Kd.V_afterv (ok := (fun k_ => ((P0_ k_ ∨ P1_ k_) ∨ w.heap.size ≤ k_) ∧ k_ ≠ gb113)) (by (with_reducible repeat (first | apply Kd.V_alloc | apply Kd.V_drewN | apply Kd.V_drew)); exact HL112_1.out) hg hat); have n2_ := Aside0.mk (Kd.V_afterv (ok := (fun k_ => ((P0_ k_ ∨ P1_ k_) ∨ w.heap.size ≤ k_) ∧ k_ ≠ gb113)) (by (with_reducible repeat (first | apply Kd.V_alloc | apply Kd.V_drewN | apply Kd.V_drew)); exact HL112_2.out) hg hat); have n3_ := Aside0.mk (blk_grown (g := gb113) (o := .cells #[.int .i64 ((rd_T26 l1 x10_1).f0), .slice A112_1 ((rd_T26 l1 x10_1).f1).length c112_1, .slice A112_2 ((rd_T26 l1 x10_1).f2).length c112_2] 26 (0, 0)) (by (with_reducible repeat (first | refine blk_drewN ?_ _ | refine blk_drew ?_ | refine blk_alloc ?_ _)); exact BK113.out) hg (Kd.R_ne HO117.out BK113.out (by decide))); have n4_ := Aside0.mk (hb); have n5_ := Aside0.mk (Kept.of_grown (S := (fun k_ => P0_ k_)) hg (by repeat (first | (with_reducible first | exact HK.out | apply Kept.alloc | apply Kept.drewN | apply Kept.drew | refine Kept.setCell ?_ (.inr GW113.out) _) | exact HK.out)) (fun k_ e_ => (HO117.out.1 k_ e_))); have n6_ := Aside0.mk (ho); clear HO_8; clear HL112_1; clear HL112_2; clear BK113; clear HB; clear HK; clear HO117; have HO_8 := n0_; have HL112_1 := n1_; have HL112_2 := n2_; have BK113 := n3_; have HB := n4_; have HK := n5_; have HO121 := n6_; clear n0_ n1_ n2_ n3_ n4_ n5_ n6_; clear ho hb hg hat))
          have n0_ := Aside0.mk (Kd.V_drew HO_8.out)
          have n1_ := Aside0.mk (Kd.V_drew HL112_1.out)
          have n2_ := Aside0.mk (Kd.V_drew HL112_2.out)
          have n3_ := Aside0.mk (Kd.R_drew HO121.out)
          have n4_ := Aside0.mk (blk_drew BK113.out)
          have n5_ := Aside0.mk (Kept.drew HK.out)
          have n6_ := Aside0.mk (below_drew1 HB.out)
          clear HO_8
          clear HL112_1
          clear HL112_2
          clear HO121
          clear BK113
          clear HK
          clear HB
          have HO_8 := n0_
          have HL112_1 := n1_
          have HL112_2 := n2_
          have HO121 := n3_
          have BK113 := n4_
          have HK := n5_
          have HB := n6_
          clear n0_ n1_ n2_ n3_ n4_ n5_ n6_
          refine start_ (n := 8) (S := fun w' => w'.cell? ⟨gb113, 0, none⟩ = some (.int .i64 ((rd_T26 l1 x10_1).f0)) ∧ w'.cell? ⟨gb113, 1, none⟩ = some (.slice A112_1 ((rd_T26 l1 x10_1).f1).length c112_1) ∧ w'.cell? ⟨gb113, 2, none⟩ = some (.slice A112_2 ((rd_T26 l1 x10_1).f2).length c112_2)) (ds := []) #[false, false, false, false, false, false, false, false] (by kernel_rfl) rfl rfl ⟨(blk_cell BK113.out 0).trans rfl, (blk_cell BK113.out 1).trans rfl, (blk_cell BK113.out 2).trans rfl⟩ (fun hHeld => ?_); refine with_tabW tlv_put.tab12 tlv_put.bits12 (fun HT_ HW_ => ?_)
          generalize w20.drew = w21 at HO_8 HL112_1 HL112_2 HO121 BK113 HK HB hHeld ⊢
          refine pure_ (i := 0) (N := some 51) (v := ?_) (a' := ?_) #[true, false, false, false, false, false, false, false] rfl rfl (any_of HT_.out (by kernel_rfl)) (fun _ _ _ h => h) (Or.inl ⟨by rfl, ?_⟩) ?_ ?_
          rotate_left
          ·intro w'
           go_simp
           with_reducible rfl
          rotate_left
          ·simp only [Act.put, List.setIfInBounds_toArray, List.set_cons_zero, List.set_cons_succ, i64_w, i32_w]
           rfl
          refine pure_ (i := 1) (N := some 52) (v := ?_) (a' := ?_) #[true, true, false, false, false, false, false, false] rfl rfl (any_of HT_.out (by kernel_rfl)) (fun _ _ _ h => h) (Or.inl ⟨by rfl, ?_⟩) ?_ ?_
          rotate_left
          ·intro w'
           go_simp
           with_reducible rfl
          rotate_left
          ·simp only [Act.put, List.setIfInBounds_toArray, List.set_cons_zero, List.set_cons_succ, i64_w, i32_w]
           rfl
          refine pure_ (i := 4) (N := some 55) (v := ?_) (a' := ?_) #[true, true, false, false, true, false, false, false] rfl rfl (any_of HT_.out (by kernel_rfl)) (fun _ _ _ h => h) (Or.inl ⟨by rfl, ?_⟩) ?_ ?_
          rotate_left
          ·intro w'
           go_simp
           with_reducible rfl
          rotate_left
          ·simp only [Act.put, List.setIfInBounds_toArray, List.set_cons_zero, List.set_cons_succ, i64_w, i32_w]
           rfl
          refine take_ (i := 2) (N := some 53) (v := ?_) (a' := ?_) #[true, true, true, false, true, false, false, false] rfl rfl (take_ofW HT_.out HW_.out (by kernel_rfl)) (fun _ _ _ h => h) (Or.inl ⟨by rfl, ?_⟩) hHeld ?_ ?_
          rotate_left
          ·rintro w' ⟨s0, s1, s2⟩
           go_simp
           with_reducible rfl
          rotate_left
          ·simp only [Act.put, List.setIfInBounds_toArray, List.set_cons_zero, List.set_cons_succ, i64_w, i32_w]
           rfl
          refine take_ (i := 5) (N := some 56) (v := ?_) (a' := ?_) #[true, true, true, false, true, true, false, false] rfl rfl (take_ofW HT_.out HW_.out (by kernel_rfl)) (fun _ _ _ h => h) (Or.inl ⟨by rfl, ?_⟩) hHeld ?_ ?_
          rotate_left
          ·rintro w' ⟨s0, s1, s2⟩
           go_simp
           with_reducible rfl
          rotate_left
          ·simp only [Act.put, List.setIfInBounds_toArray, List.set_cons_zero, List.set_cons_succ, i64_w, i32_w]
           rfl
          refine one_ (i := 3) (N := some 54) #[true, true, true, true, true, true, false, false] rfl rfl (one_of HT_.out (by kernel_rfl)) (by decide) (fun K hK => ?_)
          refine Kd.R_append_rows_step (Kd.int .u8) (w0 := w0) w0.heap.size (by rfl) (.tmp 51) (.tmp 53) 22 5 (.int .u8 0) 1 rfl Try.underlying22 info5 rfl (by decide) (by omega) v120 y119 ((rd_T26 l1 x10_1).f1) _ _ _ (fun k_ => (P0_ k_ ∨ w.heap.size ≤ k_)) (fun _ => False) rfl rfl ?aO ?aR (fun _ _ h => h) (fun _ h => h.elim) ?aF ?aB ?aS ?aL ?_
          (case aR => repeat (first | exact ((Kd.V_reads' (by (with_reducible repeat (first | apply Kd.V_alloc | apply Kd.V_drewN | apply Kd.V_drew)); exact HL112_1.out)).2.2) | (with_reducible refine Kd.C_alloc ?_ _) | (with_reducible refine Kd.C_drewN ?_ _) | (with_reducible refine Kd.C_drew ?_)))
          (case aB => exact (by repeat (first | (with_reducible first | exact HB.out | apply below_alloc | apply pw_below_drewN | apply below_drew1 | refine below_set ?_ GE113.out) | exact HB.out)))
          (case aF => exact (fun k_ hk => (.inr (Nat.le_trans (by first | exact HK.out.1 | exact (show Kept w _ (fun k_ => P0_ k_) from by repeat (first | (with_reducible first | exact HK.out | apply Kept.alloc | apply Kept.drewN | apply Kept.drew | refine Kept.setCell ?_ (.inr GW113.out) _) | exact HK.out)).1) hk))))
          (case aO => exact (by (with_reducible repeat (first | apply Kd.R_alloc | apply Kd.R_drewN | apply Kd.R_drew)); exact HO121.out))
          (case aS => exact (below_size (by repeat (first | (with_reducible first | exact HB.out | apply below_alloc | apply pw_below_drewN | apply below_drew1 | refine below_set ?_ GE113.out) | exact HB.out))))
          (case aL => have := LMc11.out; omega)
          intro v123 w22 ho hb hg hat
          rw [← Ny122.out] at ho
          have n0_ := Aside0.mk (Kd.V_afterv (ok := (fun k_ => ((P0_ k_ ∨ P1_ k_) ∨ w.heap.size ≤ k_) ∧ k_ ≠ gb113)) (by (with_reducible repeat (first | apply Kd.V_alloc | apply Kd.V_drewN | apply Kd.V_drew)); exact HO_8.out) hg hat)
          have n1_ := Aside0.mk (Kd.V_afterv (ok := (fun k_ => ((P0_ k_ ∨ P1_ k_) ∨ w.heap.size ≤ k_) ∧ k_ ≠ gb113)) (by (with_reducible repeat (first | apply Kd.V_alloc | apply Kd.V_drewN | apply Kd.V_drew)); exact HL112_1.out) hg hat)
          have n2_ := Aside0.mk (Kd.V_afterv (ok := (fun k_ => ((P0_ k_ ∨ P1_ k_) ∨ w.heap.size ≤ k_) ∧ k_ ≠ gb113)) (by (with_reducible repeat (first | apply Kd.V_alloc | apply Kd.V_drewN | apply Kd.V_drew)); exact HL112_2.out) hg hat)
          have n3_ := Aside0.mk (blk_grown (g := gb113) (o := .cells #[.int .i64 ((rd_T26 l1 x10_1).f0), .slice A112_1 ((rd_T26 l1 x10_1).f1).length c112_1, .slice A112_2 ((rd_T26 l1 x10_1).f2).length c112_2] 26 (0, 0)) (by (with_reducible repeat (first | refine blk_drewN ?_ _ | refine blk_drew ?_ | refine blk_alloc ?_ _)); exact BK113.out) hg (Kd.R_ne HO121.out BK113.out (by decide)))
          have n4_ := Aside0.mk (hb)
          have n5_ := Aside0.mk (Kept.of_grown (S := (fun k_ => P0_ k_)) hg (by repeat (first | (with_reducible first | exact HK.out | apply Kept.alloc | apply Kept.drewN | apply Kept.drew | refine Kept.setCell ?_ (.inr GW113.out) _) | exact HK.out)) (fun k_ e_ => (HO121.out.1 k_ e_)))
          have n6_ := Aside0.mk (ho)
          clear HO_8
          clear HL112_1
          clear HL112_2
          clear BK113
          clear HB
          clear HK
          clear HO121
          have HO_8 := n0_
          have HL112_1 := n1_
          have HL112_2 := n2_
          have BK113 := n3_
          have HB := n4_
          have HK := n5_
          have HO124 := n6_
          clear n0_ n1_ n2_ n3_ n4_ n5_ n6_
          clear ho hb hg hat
          obtain ⟨Ao23, co23, eo23⟩ := Kd.R_slice HO124.out
          (first | subst eo23 | (injection eo23 with f1_ f2_ f3_; have f4_ := f1_.symm; have f5_ := f3_.symm; clear f1_ f2_ f3_; subst f4_; subst f5_))
          refine hK.out _ _ ⟨(blk_cell BK113.out 0).trans rfl, (blk_cell BK113.out 1).trans rfl, (blk_cell BK113.out 2).trans rfl⟩ (fun hHeld => ?_)
          clear hK K
          refine norm_ (a' := ?_) ?_ ?_
          rotate_left
          ·show Act.put _ (some 54) _ = _
           simp only [Act.put, List.setIfInBounds_toArray, List.set_cons_zero, List.set_cons_succ, i64_w, i32_w]
           rfl
          refine one_ (i := 6) (N := some 57) #[true, true, true, true, true, true, true, false] rfl rfl (one_of HT_.out (by kernel_rfl)) (by decide) (fun K hK => ?_)
          refine goes_ Try.func26 (by kernel_rfl) rfl #[.slice Ao23 y122.length co23, .slice A112_2 ((rd_T26 l1 x10_1).f2).length c112_2] (by rfl) rfl rfl (by (try simp only [List.map_toArray, List.map_cons, List.map_nil]); first | done | rfl | (simp only [List.length_drop, List.length_take]; rfl)) ?_
          with_reducible refine (ih k1 (by have := HK1.out; omega) (fun k_ => some k_ = (.slice Ao23 y122.length co23 : Value).ownBlock) (.slice Ao23 y122.length co23) y122 (fun k_ => ((((P0_ k_ ∨ P1_ k_) ∨ w.heap.size ≤ k_) ∧ k_ ≠ gb113) ∧ some k_ ≠ (.slice Ao23 y122.length co23 : Value).ownBlock)) _ _ ((rd_T26 l1 x10_1).f2) t125 w0 _ ?side1 ?side2 ?side3 A12.out).mono ?_
          (case side1 => repeat (first | (with_reducible first | exact HB.out | apply below_alloc | apply pw_below_drewN | apply below_drew1 | refine below_set ?_ GE113.out) | exact HB.out))
          (case side2 => exact Kd.R_tight rfl HO124.out)
          (case side3 => exact Kd.V_mono (HL112_2.out) (fun k_ hk_ => ⟨hk_, hk_.2⟩))
          rintro e w24 ⟨v126, rfl, ho0, hb, hkp⟩
          refine ⟨_, rfl, ?_⟩
          have n0_ := Aside0.mk (Kd.V_mono (ok' := fun k_ => ((P0_ k_ ∨ P1_ k_) ∨ w.heap.size ≤ k_) ∧ k_ ≠ gb113 ∧ some k_ ≠ (v126 : Value).ownBlock) (Kd.V_keptB (HO_8.out) hkp (fun k_ hk_ hs_ => (hk_.2) hs_)) (fun k_ hk_ => ⟨hk_.1.1.1, hk_.1.1.2, fun e_ => Or.elim (ho0.1 k_ e_.symm) (fun hs_ => hk_.2.1 hs_) (fun hn_ => Nat.not_le.2 hk_.2.2 hn_)⟩))
          have n1_ := Aside0.mk (blk_kept (by (with_reducible repeat (first | refine blk_drewN ?_ _ | refine blk_drew ?_ | refine blk_alloc ?_ _)); exact BK113.out) hkp (fun hs_ => (fun e_ => (Kd.R_ne HO124.out BK113.out (by decide)) e_) hs_))
          have n2_ := Aside0.mk (Kd.R_mono (ok' := fun k_ => (P0_ k_ ∨ w.heap.size ≤ k_)) ho0 (fun k_ hk_ => Or.elim hk_ (fun hs_ => (HO124.out.1 k_ (hs_).symm)) (fun hn_ => (.inr (Nat.le_trans (by first | exact HK.out.1 | exact (show Kept w _ (fun k_ => P0_ k_) from by repeat (first | (with_reducible first | exact HK.out | apply Kept.alloc | apply Kept.drewN | apply Kept.drew | refine Kept.setCell ?_ (.inr GW113.out) _) | exact HK.out)).1) hn_)))))
          have n3_ := Aside0.mk (Kept.then_ (S := (fun k_ => P0_ k_)) (by repeat (first | (with_reducible first | exact HK.out | apply Kept.alloc | apply Kept.drewN | apply Kept.drew | refine Kept.setCell ?_ (.inr GW113.out) _) | exact HK.out)) hkp (fun k_ hs_ => (fun e_ => (HO124.out.1 k_ e_.symm)) hs_))
          have n4_ := Aside0.mk (hb)
          clear HO_8
          clear BK113
          clear HK
          clear HB
          clear HO124
          clear HL112_1
          clear HL112_2
          have HO_8 := n0_
          have BK113 := n1_
          have HO127 := n2_
          have HK := n3_
          have HB := n4_
          clear n0_ n1_ n2_ n3_ n4_
          (try clear hb)
          (try clear hkp)
          (try clear ho0)
          refine hK.out _ _ ⟨(blk_cell BK113.out 0).trans rfl, (blk_cell BK113.out 1).trans rfl, (blk_cell BK113.out 2).trans rfl⟩ (fun hHeld => ?_)
          clear hK K
          refine norm_ (a' := ?_) ?_ ?_
          rotate_left
          ·show Act.put _ (some 57) _ = _
           simp only [Act.put, List.setIfInBounds_toArray, List.set_cons_zero, List.set_cons_succ, i64_w, i32_w]
           rfl
          refine pure_ (i := 7) (N := some 0) (v := ?_) (a' := ?_) #[true, true, true, true, true, true, true, true] rfl rfl (any_of HT_.out (by kernel_rfl)) (fun _ _ _ h => h) (Or.inl ⟨by rfl, ?_⟩) ?_ ?_
          rotate_left
          ·intro w'
           go_simp
           with_reducible rfl
          rotate_left
          ·simp only [Act.put, List.setIfInBounds_toArray, List.set_cons_zero, List.set_cons_succ, i64_w, i32_w]
           rfl
          refine done_ (done_of HT_.out (by kernel_rfl)) ?_
          try go_wp2
          go_roundg k1
          case measure => have := HK1.out; omega
          case rel => exact ⟨(t125), (wrap64 (x10_1 + 1)), (by first | rfl | (simp; done) | (simp [*]; done)), H', ⟨by have := HK1.out; omega⟩, ⟨by (with_reducible repeat (first | apply Kd.R_alloc | apply Kd.R_drewN | apply Kd.R_drew)); exact HO127.out⟩, ⟨by (with_reducible repeat (first | apply Kd.V_alloc | apply Kd.V_drewN | apply Kd.V_drew)); exact Kd.V_mono HO_8.out (fun _ hk => ⟨hk.1, hk.2.2⟩)⟩, ⟨by repeat (first | (with_reducible first | exact HK.out | apply Kept.alloc | apply Kept.drewN | apply Kept.drew | refine Kept.setCell ?_ (.inr GW113.out) _) | exact HK.out)⟩, ⟨by repeat (first | (with_reducible first | exact HB.out | apply below_alloc | apply pw_below_drewN | apply below_drew1 | refine below_set ?_ GE113.out) | exact HB.out)⟩⟩
         ·rw [if_neg c11] at H
          exact absurd H (by simp)
        ·rw [if_neg c10] at H
         exact absurd H (by simp)
       ·rw [if_neg c9] at H
        have c9b0 : (t118 == 1) = false := beq_eq_false_iff_ne.mpr c9
        have c9b1 : (t118 != 1) = true := bne_iff_ne.mpr c9
        by_cases c25 : t118 = 2
        ·rw [if_pos c25] at H
         have c25b0 : (t118 == 2) = true := beq_iff_eq.mpr c25
         have c25b1 : (t118 != 2) = false := bne_eq_false_iff_eq.mpr c25
         clear c25
         obtain ⟨y128, hy128⟩ : ∃ y_ : List Int, y_ = (([129, (wrap64 ((((rd_T26 l1 x10_1).f1).length : Int) + t114)) % 256] : List Int)) := ⟨_, rfl⟩
         replace H : (if y115.length + y128.length < 140737488355328 then ((some (y115 ++ y128 : List Int)).bind fun y131 => (if y131.length + ((rd_T26 l1 x10_1).f1).length < 140737488355328 then ((tlv_put.f k1 (y131 ++ ((rd_T26 l1 x10_1).f1)) ((rd_T26 l1 x10_1).f2)).bind fun t137 => (tlv_put.l0 k1 t137 l1 (l1.length : Int) (wrap64 (x10_1 + 1)))) else (none))) else (none)) = some r := by first | (rw [hy128]; with_reducible exact H) | (have H2_ := (Option.bind_some _ _).symm.trans H; rw [hy128]; with_reducible exact H2_) | (have H2_ := (Option.bind_some _ _).symm.trans H; with_reducible exact H2_) | with_reducible exact H | (rw [hy128]; exact H) | exact H
         have Ny128 := Aside0.mk hy128
         clear hy128
         by_cases c26 : y115.length + y128.length < 140737488355328
         ·rw [if_pos c26] at H
          have LMc26 := Aside0.mk c26
          clear c26
          obtain ⟨y131, hy131⟩ : ∃ y_ : List Int, y_ = (y115 ++ y128) := ⟨_, rfl⟩
          replace H : (if y131.length + ((rd_T26 l1 x10_1).f1).length < 140737488355328 then ((tlv_put.f k1 (y131 ++ ((rd_T26 l1 x10_1).f1)) ((rd_T26 l1 x10_1).f2)).bind fun t137 => (tlv_put.l0 k1 t137 l1 (l1.length : Int) (wrap64 (x10_1 + 1)))) else (none)) = some r := by first | (rw [hy131]; with_reducible exact H) | (have H2_ := (Option.bind_some _ _).symm.trans H; rw [hy131]; with_reducible exact H2_) | (have H2_ := (Option.bind_some _ _).symm.trans H; with_reducible exact H2_) | with_reducible exact H | (rw [hy131]; exact H) | exact H
          have Ny131 := Aside0.mk hy131
          clear hy131
          by_cases c27 : y131.length + ((rd_T26 l1 x10_1).f1).length < 140737488355328
          ·rw [if_pos c27] at H
           have LMc27 := Aside0.mk c27
           clear c27
           obtain ⟨y134, hy134⟩ : ∃ y_ : List Int, y_ = (y131 ++ ((rd_T26 l1 x10_1).f1)) := ⟨_, rfl⟩
           replace H : ((tlv_put.f k1 y134 ((rd_T26 l1 x10_1).f2)).bind fun t137 => (tlv_put.l0 k1 t137 l1 (l1.length : Int) (wrap64 (x10_1 + 1)))) = some r := by first | (rw [hy134]; with_reducible exact H) | (have H2_ := (Option.bind_some _ _).symm.trans H; rw [hy134]; with_reducible exact H2_) | (have H2_ := (Option.bind_some _ _).symm.trans H; with_reducible exact H2_) | with_reducible exact H | (rw [hy134]; exact H) | exact H
           have Ny134 := Aside0.mk hy134
           clear hy134
           replace H := Option.bind_eq_some_iff.mp H
           obtain ⟨t137, A280, H⟩ := H
           replace H : (tlv_put.l0 k1 t137 l1 (l1.length : Int) (wrap64 (x10_1 + 1))) = some r := H
           have A28 := Aside0.mk A280
           clear A280
           have H' := Aside0.mk H
           clear H
           have p112 : 0 ≤ (x10_1 : Int) := of_decide_eq_true (by first | (with_reducible assumption) | assumption)
           have q112 : x10_1 < (l1.length : Int) := of_decide_eq_true (by first | (with_reducible assumption) | assumption)
           obtain ⟨ad112, A112_1, c112_1, A112_2, c112_2, e112, hx112_0, hx112_1, hx112_2, hl112_1, hi112_1, hl112_2, hi112_2⟩ := at_T26 (Kd.V_reads' HO_8.out).2.2 x10_1 p112 q112
           cases e112
           obtain ⟨ce112, hce112, hMe112, hcc112⟩ := Kd.V_get HO_8.out z26 x10_1 p112 (by first | exact q112 | exact of_decide_eq_true (by first | (with_reducible assumption) | assumption) | (have e_ := (Kd.V_reads' HO_8.out).1; omega))
           obtain ⟨ua112_1, uc112_1, ua112_2, uc112_2, rfl, ul112_1, ge112_1, ul112_2, ge112_2⟩ := k26_openF hMe112
           have hv112_1 := hcc112 1 _ rfl
           rw [add_field _ _ 1 (by omega)] at hv112_1
           replace hv112_1 := Option.some.inj (hv112_1.symm.trans hx112_1)
           injection hv112_1 with hva_ hvn_ hvc_
           rw [hva_] at ge112_1
           rw [hvc_] at ul112_1
           have HL112_1 := Aside0.mk (show Kd.V (Kd.int .u8) 5 _ w0.heap.size _ _ ((rd_T26 l1 x10_1).f1) from Kd.V_mk ul112_1 ge112_1)
           clear hva_ hvn_ hvc_ ge112_1 ul112_1
           have hv112_2 := hcc112 2 _ rfl
           rw [add_field _ _ 2 (by omega)] at hv112_2
           replace hv112_2 := Option.some.inj (hv112_2.symm.trans hx112_2)
           injection hv112_2 with hva_ hvn_ hvc_
           rw [hva_] at ge112_2
           rw [hvc_] at ul112_2
           have HL112_2 := Aside0.mk (show Kd.V k26 26 _ w0.heap.size _ _ ((rd_T26 l1 x10_1).f2) from Kd.V_mk ul112_2 ge112_2)
           clear hva_ hvn_ hvc_ ge112_2 ul112_2
           clear hcc112 hce112
           have HR112_1 := Aside0.mk hi112_1
           have HC112_1 := Aside0.mk hl112_1
           clear hi112_1 hl112_1
           have HR112_2 := Aside0.mk hi112_2
           have HC112_2 := Aside0.mk hl112_2
           clear hi112_2 hl112_2
           replace p112 := eq_true p112
           replace q112 := eq_true q112
           try go_wp2_with (first | ((with_reducible refine gate_dst (N := 6) rfl ?_); refine box_event ?hg (N := 6) ?hd (cs := #[.int .i64 0, .slice none 0 0, .slice none 0 0]) (t := 26) ?hr ?_; (case hd => rfl); (case hg => rfl); (case hr => first | (go_simp; done) | (go_simp; rfl)); intro gb113 hg w29 hbox hb; have n0_ := Aside0.mk (Kd.R_below (by (with_reducible repeat (first | apply Kd.R_alloc | apply Kd.R_drewN | apply Kd.R_drew)); exact HO_0.out) hb); have n1_ := Aside0.mk (Kd.V_below (Kd.V_elderB (by (with_reducible repeat (first | apply Kd.V_alloc | apply Kd.V_drewN | apply Kd.V_drew)); exact HO_8.out) gb113 (Nat.le_of_eq hg.symm)) hb); have n2_ := Aside0.mk (Kd.V_below (Kd.V_elderB (by (with_reducible repeat (first | apply Kd.V_alloc | apply Kd.V_drewN | apply Kd.V_drew)); exact HL112_1.out) gb113 (Nat.le_of_eq hg.symm)) hb); have n3_ := Aside0.mk (Kd.V_below (Kd.V_elderB (by (with_reducible repeat (first | apply Kd.V_alloc | apply Kd.V_drewN | apply Kd.V_drew)); exact HL112_2.out) gb113 (Nat.le_of_eq hg.symm)) hb); have n4_ := Aside0.mk (Kd.C_below (by repeat (first | (with_reducible exact HR112_1.out) | (with_reducible refine Kd.C_alloc ?_ _) | (with_reducible refine Kd.C_drewN ?_ _) | (with_reducible refine Kd.C_drew ?_) | exact HR112_1.out)) hb); have n5_ := Aside0.mk (Kd.C_below (by repeat (first | (with_reducible exact HR112_2.out) | (with_reducible refine Kd.C_alloc ?_ _) | (with_reducible refine Kd.C_drewN ?_ _) | (with_reducible refine Kd.C_drew ?_) | exact HR112_2.out)) hb); have n6_ := Aside0.mk (Kept.below (S := (fun k_ => P0_ k_)) (by repeat (first | (with_reducible first | exact HK.out | apply Kept.alloc | apply Kept.drewN | apply Kept.drew) | exact HK.out)) hb); have n7_ := Aside0.mk (below_step (by repeat (first | (with_reducible first | exact HB.out | apply below_alloc | apply pw_below_drewN | apply below_drew1) | exact HB.out)) hb); have n8_ := Aside0.mk (hbox); have n9_ := Aside0.mk ((by rw [hg]; exact (by first | exact HK.out.1 | exact (show Kept w _ (fun k_ => P0_ k_) from by repeat (first | (with_reducible first | exact HK.out | apply Kept.alloc | apply Kept.drewN | apply Kept.drew) | exact HK.out)).1) : w.heap.size ≤ gb113)); have n10_ := Aside0.mk ((by rw [hg]; exact (below_size (by repeat (first | (with_reducible first | exact HB.out | apply below_alloc | apply pw_below_drewN | apply below_drew1) | exact HB.out))) : w0.heap.size ≤ gb113)); clear HO_0; clear HO_8; clear HL112_1; clear HL112_2; clear HR112_1; clear HR112_2; clear HK; clear HB; have HO_0 := n0_; have HO_8 := n1_; have HL112_1 := n2_; have HL112_2 := n3_; have HR112_1 := n4_; have HR112_2 := n5_; have HK := n6_; have HB := n7_; have BK113 := n8_; have GW113 := n9_; have GE113 := n10_; clear n0_ n1_ n2_ n3_ n4_ n5_ n6_ n7_ n8_ n9_ n10_; clear hb hbox hg; have hcz30_0 : w29.cell? ⟨gb113, 0, none⟩ = some (.int .i64 0) := (blk_cell BK113.out 0).trans rfl; have hcz30_1 : w29.cell? ⟨gb113, 1, none⟩ = some (.slice none 0 0) := (blk_cell BK113.out 1).trans rfl; have hcz30_2 : w29.cell? ⟨gb113, 2, none⟩ = some (.slice none 0 0) := (blk_cell BK113.out 2).trans rfl; have hfz30_0 := blk_frozen BK113.out 0; have hfz30_1 := blk_frozen BK113.out 1; have hfz30_2 := blk_frozen BK113.out 2))
           have n0_ : Aside0 (Kd.R (Kd.int .u8) 5 (((w29.setCell ⟨gb113, 0, none⟩ (.int .i64 ((rd_T26 l1 x10_1).f0))).setCell ⟨gb113, 1, none⟩ (.slice A112_1 ((rd_T26 l1 x10_1).f1).length c112_1)).setCell ⟨gb113, 2, none⟩ (.slice A112_2 ((rd_T26 l1 x10_1).f2).length c112_2)) w0.heap.size (fun k_ => (P0_ k_ ∨ w.heap.size ≤ k_)) u0 x0_1) := ⟨by (with_reducible repeat (first | apply Kd.R_alloc | apply Kd.R_drewN | apply Kd.R_drew)); exact Kd.R_mono (Kd.R_far (p := ⟨gb113, 2, none⟩) (Kd.R_far (p := ⟨gb113, 1, none⟩) (Kd.R_far (p := ⟨gb113, 0, none⟩) (Kd.R_types HO_0.out BK113.out (by decide)) (fun _ hk => hk.2) (.int .i64 ((rd_T26 l1 x10_1).f0))) (fun _ hk => hk.2) (.slice A112_1 ((rd_T26 l1 x10_1).f1).length c112_1)) (fun _ hk => hk.2) (.slice A112_2 ((rd_T26 l1 x10_1).f2).length c112_2)) (fun _ hk => hk.1)⟩
           have n1_ : Aside0 (Kd.V k26 26 (((w29.setCell ⟨gb113, 0, none⟩ (.int .i64 ((rd_T26 l1 x10_1).f0))).setCell ⟨gb113, 1, none⟩ (.slice A112_1 ((rd_T26 l1 x10_1).f1).length c112_1)).setCell ⟨gb113, 2, none⟩ (.slice A112_2 ((rd_T26 l1 x10_1).f2).length c112_2)) w0.heap.size (fun k_ => ((P0_ k_ ∨ P1_ k_) ∨ w.heap.size ≤ k_) ∧ some k_ ≠ (u0 : Value).ownBlock ∧ k_ ≠ gb113) (.slice (some ad112) l1.length c1) l1) := ⟨by (with_reducible repeat (first | apply Kd.V_alloc | apply Kd.V_drewN | apply Kd.V_drew)); exact Kd.V_mono (Kd.V_far (p := ⟨gb113, 2, none⟩) (Kd.V_far (p := ⟨gb113, 1, none⟩) (Kd.V_far (p := ⟨gb113, 0, none⟩) (Kd.V_mono HO_8.out (fun k_ hk => (⟨hk, hk.2⟩ : _ ∧ k_ ≠ gb113))) (fun _ hk => hk.2) (.int .i64 ((rd_T26 l1 x10_1).f0))) (fun _ hk => hk.2) (.slice A112_1 ((rd_T26 l1 x10_1).f1).length c112_1)) (fun _ hk => hk.2) (.slice A112_2 ((rd_T26 l1 x10_1).f2).length c112_2)) (fun _ hk => ⟨hk.1.1.1, ⟨hk.1.1.2, hk.1.2⟩⟩)⟩
           have n2_ : Aside0 (Kd.V (Kd.int .u8) 5 (((w29.setCell ⟨gb113, 0, none⟩ (.int .i64 ((rd_T26 l1 x10_1).f0))).setCell ⟨gb113, 1, none⟩ (.slice A112_1 ((rd_T26 l1 x10_1).f1).length c112_1)).setCell ⟨gb113, 2, none⟩ (.slice A112_2 ((rd_T26 l1 x10_1).f2).length c112_2)) w0.heap.size (fun k_ => ((P0_ k_ ∨ P1_ k_) ∨ w.heap.size ≤ k_) ∧ some k_ ≠ (u0 : Value).ownBlock ∧ k_ ≠ gb113) (.slice A112_1 ((rd_T26 l1 x10_1).f1).length c112_1) ((rd_T26 l1 x10_1).f1)) := ⟨by (with_reducible repeat (first | apply Kd.V_alloc | apply Kd.V_drewN | apply Kd.V_drew)); exact Kd.V_mono (Kd.V_far (p := ⟨gb113, 2, none⟩) (Kd.V_far (p := ⟨gb113, 1, none⟩) (Kd.V_far (p := ⟨gb113, 0, none⟩) (Kd.V_mono HL112_1.out (fun k_ hk => (⟨hk, hk.2⟩ : _ ∧ k_ ≠ gb113))) (fun _ hk => hk.2) (.int .i64 ((rd_T26 l1 x10_1).f0))) (fun _ hk => hk.2) (.slice A112_1 ((rd_T26 l1 x10_1).f1).length c112_1)) (fun _ hk => hk.2) (.slice A112_2 ((rd_T26 l1 x10_1).f2).length c112_2)) (fun _ hk => ⟨hk.1.1.1, ⟨hk.1.1.2, hk.1.2⟩⟩)⟩
           have n3_ : Aside0 (Kd.V k26 26 (((w29.setCell ⟨gb113, 0, none⟩ (.int .i64 ((rd_T26 l1 x10_1).f0))).setCell ⟨gb113, 1, none⟩ (.slice A112_1 ((rd_T26 l1 x10_1).f1).length c112_1)).setCell ⟨gb113, 2, none⟩ (.slice A112_2 ((rd_T26 l1 x10_1).f2).length c112_2)) w0.heap.size (fun k_ => ((P0_ k_ ∨ P1_ k_) ∨ w.heap.size ≤ k_) ∧ some k_ ≠ (u0 : Value).ownBlock ∧ k_ ≠ gb113) (.slice A112_2 ((rd_T26 l1 x10_1).f2).length c112_2) ((rd_T26 l1 x10_1).f2)) := ⟨by (with_reducible repeat (first | apply Kd.V_alloc | apply Kd.V_drewN | apply Kd.V_drew)); exact Kd.V_mono (Kd.V_far (p := ⟨gb113, 2, none⟩) (Kd.V_far (p := ⟨gb113, 1, none⟩) (Kd.V_far (p := ⟨gb113, 0, none⟩) (Kd.V_mono HL112_2.out (fun k_ hk => (⟨hk, hk.2⟩ : _ ∧ k_ ≠ gb113))) (fun _ hk => hk.2) (.int .i64 ((rd_T26 l1 x10_1).f0))) (fun _ hk => hk.2) (.slice A112_1 ((rd_T26 l1 x10_1).f1).length c112_1)) (fun _ hk => hk.2) (.slice A112_2 ((rd_T26 l1 x10_1).f2).length c112_2)) (fun _ hk => ⟨hk.1.1.1, ⟨hk.1.1.2, hk.1.2⟩⟩)⟩
           have n4_ : Aside0 ((((w29.setCell ⟨gb113, 0, none⟩ (.int .i64 ((rd_T26 l1 x10_1).f0))).setCell ⟨gb113, 1, none⟩ (.slice A112_1 ((rd_T26 l1 x10_1).f1).length c112_1)).setCell ⟨gb113, 2, none⟩ (.slice A112_2 ((rd_T26 l1 x10_1).f2).length c112_2)).heap[gb113]? = some (.cells #[.int .i64 ((rd_T26 l1 x10_1).f0), .slice A112_1 ((rd_T26 l1 x10_1).f1).length c112_1, .slice A112_2 ((rd_T26 l1 x10_1).f2).length c112_2] 26 (0, 0))) := ⟨by (with_reducible repeat (first | refine blk_drewN ?_ _ | refine blk_drew ?_ | refine blk_alloc ?_ _)); refine blk_put (cs := #[.int .i64 ((rd_T26 l1 x10_1).f0), .slice A112_1 ((rd_T26 l1 x10_1).f1).length c112_1, .slice none 0 0]) ?_ 2 _ rfl; (with_reducible repeat (first | refine blk_drewN ?_ _ | refine blk_drew ?_ | refine blk_alloc ?_ _)); refine blk_put (cs := #[.int .i64 ((rd_T26 l1 x10_1).f0), .slice none 0 0, .slice none 0 0]) ?_ 1 _ rfl; (with_reducible repeat (first | refine blk_drewN ?_ _ | refine blk_drew ?_ | refine blk_alloc ?_ _)); refine blk_put (cs := #[.int .i64 0, .slice none 0 0, .slice none 0 0]) ?_ 0 _ rfl; (with_reducible repeat (first | refine blk_drewN ?_ _ | refine blk_drew ?_ | refine blk_alloc ?_ _)); exact BK113.out⟩
           have n5_ : Aside0 (Kept w (((w29.setCell ⟨gb113, 0, none⟩ (.int .i64 ((rd_T26 l1 x10_1).f0))).setCell ⟨gb113, 1, none⟩ (.slice A112_1 ((rd_T26 l1 x10_1).f1).length c112_1)).setCell ⟨gb113, 2, none⟩ (.slice A112_2 ((rd_T26 l1 x10_1).f2).length c112_2)) (fun k_ => P0_ k_)) := ⟨by repeat (first | (with_reducible first | exact HK.out | apply Kept.alloc | apply Kept.drewN | apply Kept.drew | refine Kept.setCell ?_ (.inr GW113.out) _) | exact HK.out)⟩
           have n6_ : Aside0 (Below w0.heap.size w0 (((w29.setCell ⟨gb113, 0, none⟩ (.int .i64 ((rd_T26 l1 x10_1).f0))).setCell ⟨gb113, 1, none⟩ (.slice A112_1 ((rd_T26 l1 x10_1).f1).length c112_1)).setCell ⟨gb113, 2, none⟩ (.slice A112_2 ((rd_T26 l1 x10_1).f2).length c112_2))) := ⟨by repeat (first | (with_reducible first | exact HB.out | apply below_alloc | apply pw_below_drewN | apply below_drew1 | refine below_set ?_ GE113.out) | exact HB.out)⟩
           (try clear HO_0)
           (try clear HO_8)
           (try clear HL112_1)
           (try clear HL112_2)
           (try clear BK113)
           (try clear HK)
           (try clear HB)
           generalize (((w29.setCell ⟨gb113, 0, none⟩ (.int .i64 ((rd_T26 l1 x10_1).f0))).setCell ⟨gb113, 1, none⟩ (.slice A112_1 ((rd_T26 l1 x10_1).f1).length c112_1)).setCell ⟨gb113, 2, none⟩ (.slice A112_2 ((rd_T26 l1 x10_1).f2).length c112_2)) = w31 at n0_ n1_ n2_ n3_ n4_ n5_ n6_ ⊢
           have HO_0 := n0_
           have HO_8 := n1_
           have HL112_1 := n2_
           have HL112_2 := n3_
           have BK113 := n4_
           have HK := n5_
           have HB := n6_
           clear n0_ n1_ n2_ n3_ n4_ n5_ n6_
           have n0_ := Aside0.mk (Kd.R_drew HO_0.out)
           have n1_ := Aside0.mk (Kd.V_drew HO_8.out)
           have n2_ := Aside0.mk (Kd.V_drew HL112_1.out)
           have n3_ := Aside0.mk (Kd.V_drew HL112_2.out)
           have n4_ := Aside0.mk (blk_drew BK113.out)
           have n5_ := Aside0.mk (Kept.drew HK.out)
           have n6_ := Aside0.mk (below_drew1 HB.out)
           clear HO_0
           clear HO_8
           clear HL112_1
           clear HL112_2
           clear BK113
           clear HK
           clear HB
           have HO_0 := n0_
           have HO_8 := n1_
           have HL112_1 := n2_
           have HL112_2 := n3_
           have BK113 := n4_
           have HK := n5_
           have HB := n6_
           clear n0_ n1_ n2_ n3_ n4_ n5_ n6_
           refine start_ (n := 8) (S := fun w' => w'.cell? ⟨gb113, 0, none⟩ = some (.int .i64 ((rd_T26 l1 x10_1).f0)) ∧ w'.cell? ⟨gb113, 1, none⟩ = some (.slice A112_1 ((rd_T26 l1 x10_1).f1).length c112_1) ∧ w'.cell? ⟨gb113, 2, none⟩ = some (.slice A112_2 ((rd_T26 l1 x10_1).f2).length c112_2)) (ds := []) #[false, false, false, false, false, false, false, false] (by kernel_rfl) rfl rfl ⟨(blk_cell BK113.out 0).trans rfl, (blk_cell BK113.out 1).trans rfl, (blk_cell BK113.out 2).trans rfl⟩ (fun hHeld => ?_); refine with_tabW tlv_put.tab4 tlv_put.bits4 (fun HT_ HW_ => ?_)
           generalize w31.drew = w32 at HO_0 HO_8 HL112_1 HL112_2 BK113 HK HB hHeld ⊢
           refine pure_ (i := 0) (N := some 14) (v := ?_) (a' := ?_) #[true, false, false, false, false, false, false, false] rfl rfl (any_of HT_.out (by kernel_rfl)) (fun _ _ _ h => h) (Or.inl ⟨by rfl, ?_⟩) ?_ ?_
           rotate_left
           ·intro w'
            go_simp
            with_reducible rfl
           rotate_left
           ·simp only [Act.put, List.setIfInBounds_toArray, List.set_cons_zero, List.set_cons_succ, i64_w, i32_w]
            rfl
           refine pure_ (i := 3) (N := some 17) (v := ?_) (a' := ?_) #[true, false, false, true, false, false, false, false] rfl rfl (any_of HT_.out (by kernel_rfl)) (fun _ _ _ h => h) (Or.inl ⟨by rfl, ?_⟩) ?_ ?_
           rotate_left
           ·intro w'
            go_simp
            with_reducible rfl
           rotate_left
           ·simp only [Act.put, List.setIfInBounds_toArray, List.set_cons_zero, List.set_cons_succ, i64_w, i32_w]
            rfl
           refine take_ (i := 1) (N := some 15) (v := ?_) (a' := ?_) #[true, true, false, true, false, false, false, false] rfl rfl (take_ofW HT_.out HW_.out (by kernel_rfl)) (fun _ _ _ h => h) (Or.inl ⟨by rfl, ?_⟩) hHeld ?_ ?_
           rotate_left
           ·rintro w' ⟨s0, s1, s2⟩
            go_simp
            with_reducible rfl
           rotate_left
           ·simp only [Act.put, List.setIfInBounds_toArray, List.set_cons_zero, List.set_cons_succ, i64_w, i32_w]
            rfl
           refine pure_ (i := 2) (N := some 16) (v := ?_) (a' := ?_) #[true, true, true, true, false, false, false, false] rfl rfl (any_of HT_.out (by kernel_rfl)) (fun _ _ _ h => h) (Or.inl ⟨by rfl, ?_⟩) ?_ ?_
           rotate_left
           ·intro w'
            go_simp
            with_reducible rfl
           rotate_left
           ·simp only [Act.put, List.setIfInBounds_toArray, List.set_cons_zero, List.set_cons_succ, i64_w, i32_w]
            rfl
           refine take_ (i := 4) (N := some 18) (v := ?_) (a' := ?_) #[true, true, true, true, true, false, false, false] rfl rfl (take_ofW HT_.out HW_.out (by kernel_rfl)) (fun _ _ _ h => h) (Or.inl ⟨by rfl, ?_⟩) hHeld ?_ ?_
           rotate_left
           ·rintro w' ⟨s0, s1, s2⟩
            go_simp
            with_reducible rfl
           rotate_left
           ·simp only [Act.put, List.setIfInBounds_toArray, List.set_cons_zero, List.set_cons_succ, i64_w, i32_w]
            rfl
           refine one_ (i := 5) (N := some 19) #[true, true, true, true, true, true, false, false] rfl rfl (one_of HT_.out (by kernel_rfl)) (by decide) (fun K hK => ?_)
           refine goes_ Try.func25 (by kernel_rfl) rfl #[.slice A112_2 ((rd_T26 l1 x10_1).f2).length c112_2] (by rfl) rfl rfl (by (try simp only [List.map_toArray, List.map_cons, List.map_nil]); first | done | rfl | (simp only [List.length_drop, List.length_take]; rfl)) ?_
           with_reducible refine (tlv_size.calls k1 _ _ ((rd_T26 l1 x10_1).f2) t114 _ ?side1 ?side2 A6.out).mono ?_
           (case side1 => repeat (first | exact ((Kd.V_reads' (by (with_reducible repeat (first | apply Kd.V_alloc | apply Kd.V_drewN | apply Kd.V_drew)); exact HL112_2.out)).2.2) | (with_reducible refine Kd.C_alloc ?_ _) | (with_reducible refine Kd.C_drewN ?_ _) | (with_reducible refine Kd.C_drew ?_)))
           (case side2 => exact HC112_2.out)
           rintro e w33 ⟨rfl, hb⟩
           refine ⟨_, rfl, ?_⟩
           have n0_ := Aside0.mk (Kd.R_below (by (with_reducible repeat (first | apply Kd.R_alloc | apply Kd.R_drewN | apply Kd.R_drew)); exact HO_0.out) hb)
           have n1_ := Aside0.mk (Kd.V_below (by (with_reducible repeat (first | apply Kd.V_alloc | apply Kd.V_drewN | apply Kd.V_drew)); exact HO_8.out) hb)
           have n2_ := Aside0.mk (Kd.V_below (by (with_reducible repeat (first | apply Kd.V_alloc | apply Kd.V_drewN | apply Kd.V_drew)); exact HL112_1.out) hb)
           have n3_ := Aside0.mk (Kd.V_below (by (with_reducible repeat (first | apply Kd.V_alloc | apply Kd.V_drewN | apply Kd.V_drew)); exact HL112_2.out) hb)
           have n4_ := Aside0.mk (blk_below (g := gb113) (o := .cells #[.int .i64 ((rd_T26 l1 x10_1).f0), .slice A112_1 ((rd_T26 l1 x10_1).f1).length c112_1, .slice A112_2 ((rd_T26 l1 x10_1).f2).length c112_2] 26 (0, 0)) (by (with_reducible repeat (first | refine blk_drewN ?_ _ | refine blk_drew ?_ | refine blk_alloc ?_ _)); exact BK113.out) hb)
           have n5_ := Aside0.mk (Kept.below (S := (fun k_ => P0_ k_)) (by repeat (first | (with_reducible first | exact HK.out | apply Kept.alloc | apply Kept.drewN | apply Kept.drew | refine Kept.setCell ?_ (.inr GW113.out) _) | exact HK.out)) hb)
           have n6_ := Aside0.mk (below_step (by repeat (first | (with_reducible first | exact HB.out | apply below_alloc | apply pw_below_drewN | apply below_drew1 | refine below_set ?_ GE113.out) | exact HB.out)) hb)
           clear HO_0
           clear HO_8
           clear HL112_1
           clear HL112_2
           clear BK113
           clear HK
           clear HB
           have HO_0 := n0_
           have HO_8 := n1_
           have HL112_1 := n2_
           have HL112_2 := n3_
           have BK113 := n4_
           have HK := n5_
           have HB := n6_
           clear n0_ n1_ n2_ n3_ n4_ n5_ n6_
           (try clear hb)
           (try clear hb2)
           (try clear hk)
           (try clear hi)
           refine hK.out _ _ ⟨(blk_cell BK113.out 0).trans rfl, (blk_cell BK113.out 1).trans rfl, (blk_cell BK113.out 2).trans rfl⟩ (fun hHeld => ?_)
           clear hK K
           refine norm_ (a' := ?_) ?_ ?_
           rotate_left
           ·show Act.put _ (some 19) _ = _
            simp only [Act.put, List.setIfInBounds_toArray, List.set_cons_zero, List.set_cons_succ, i64_w, i32_w]
            rfl
           refine pure_ (i := 6) (N := some 20) (v := ?_) (a' := ?_) #[true, true, true, true, true, true, true, false] rfl rfl (any_of HT_.out (by kernel_rfl)) (fun _ _ _ h => h) (Or.inl ⟨by rfl, ?_⟩) ?_ ?_
           rotate_left
           ·intro w'
            go_simp
            with_reducible rfl
           rotate_left
           ·simp only [Act.put, List.setIfInBounds_toArray, List.set_cons_zero, List.set_cons_succ, i64_w, i32_w]
            rfl
           refine pure_ (i := 7) (N := some 7) (v := ?_) (a' := ?_) #[true, true, true, true, true, true, true, true] rfl rfl (any_of HT_.out (by kernel_rfl)) (fun _ _ _ h => h) (Or.inl ⟨by rfl, ?_⟩) ?_ ?_
           rotate_left
           ·intro w'
            go_simp
            with_reducible rfl
           rotate_left
           ·simp only [Act.put, List.setIfInBounds_toArray, List.set_cons_zero, List.set_cons_succ, i64_w, i32_w]
            rfl
           refine done_ (done_of HT_.out (by kernel_rfl)) ?_
           have hcz34_0 : w33.cell? ⟨gb113, 0, none⟩ = some (.int .i64 ((rd_T26 l1 x10_1).f0)) := (blk_cell BK113.out 0).trans rfl
           have hcz34_1 : w33.cell? ⟨gb113, 1, none⟩ = some (.slice A112_1 ((rd_T26 l1 x10_1).f1).length c112_1) := (blk_cell BK113.out 1).trans rfl
           have hcz34_2 : w33.cell? ⟨gb113, 2, none⟩ = some (.slice A112_2 ((rd_T26 l1 x10_1).f2).length c112_2) := (blk_cell BK113.out 2).trans rfl
           have hfz34_0 := blk_frozen BK113.out 0
           have hfz34_1 := blk_frozen BK113.out 1
           have hfz34_2 := blk_frozen BK113.out 2
           try go_wp2_with (first | ((with_reducible refine gate_builtin (b := .append) (xs := #[.tmp 21, .tmp 25]) rfl ?_); at_builtin; refine Kd.R_append (Kd.int .u8) (w0 := w0) w0.heap.size rfl (.tmp 21) (.tmp 25) 22 5 (.int .u8 0) 1 rfl Try.underlying22 info5 rfl (by decide) (by omega) u0 x0_1 (((rd_T26 l1 x10_1).f0) % 256) [.int .u8 (((rd_T26 l1 x10_1).f0) % 256)] (fun k_ => (P0_ k_ ∨ w.heap.size ≤ k_)) (fun _ => False) rfl rfl ?aP (fun _ hk => hk.elim) ?aF ?aO ?aB ?aS ?aL ?_; (case aP => exact rfl); (case aB => exact (by repeat (first | (with_reducible first | exact HB.out | apply below_alloc | apply pw_below_drewN | apply below_drew1 | refine below_set ?_ GE113.out) | exact HB.out))); (case aF => exact (fun k_ hk => (.inr (Nat.le_trans (by first | exact HK.out.1 | exact (show Kept w _ (fun k_ => P0_ k_) from by repeat (first | (with_reducible first | exact HK.out | apply Kept.alloc | apply Kept.drewN | apply Kept.drew | refine Kept.setCell ?_ (.inr GW113.out) _) | exact HK.out)).1) hk)))); (case aO => exact (by (with_reducible repeat (first | apply Kd.R_alloc | apply Kd.R_drewN | apply Kd.R_drew)); exact HO_0.out)); (case aS => exact (below_size (by repeat (first | (with_reducible first | exact HB.out | apply below_alloc | apply pw_below_drewN | apply below_drew1 | refine below_set ?_ GE113.out) | exact HB.out)))); (case aL => have := LMc7.out; omega); intro v116 w35 ho hb hg hat; rw [← Ny115.out] at ho; have n0_ := Aside0.mk (Kd.V_afterv (ok := (fun k_ => ((P0_ k_ ∨ P1_ k_) ∨ w.heap.size ≤ k_) ∧ k_ ≠ gb113)) (by (with_reducible repeat (first | apply Kd.V_alloc | apply Kd.V_drewN | apply Kd.V_drew)); exact Kd.V_mono HO_8.out (fun _ hk => ⟨⟨hk.1, hk.2.2⟩, hk.2.1⟩)) hg hat); have n1_ := Aside0.mk (Kd.V_afterv (ok := (fun k_ => ((P0_ k_ ∨ P1_ k_) ∨ w.heap.size ≤ k_) ∧ k_ ≠ gb113)) (by (with_reducible repeat (first | apply Kd.V_alloc | apply Kd.V_drewN | apply Kd.V_drew)); exact Kd.V_mono HL112_1.out (fun _ hk => ⟨⟨hk.1, hk.2.2⟩, hk.2.1⟩)) hg hat); have n2_ := Aside0.mk (Kd.V_afterv (ok := (fun k_ => ((P0_ k_ ∨ P1_ k_) ∨ w.heap.size ≤ k_) ∧ k_ ≠ gb113)) (by (with_reducible repeat (first | apply Kd.V_alloc | apply Kd.V_drewN | apply Kd.V_drew)); exact Kd.V_mono HL112_2.out (fun _ hk => ⟨⟨hk.1, hk.2.2⟩, hk.2.1⟩)) hg hat); have n3_ := Aside0.mk (blk_grown (g := gb113) (o := .cells #[.int .i64 ((rd_T26 l1 x10_1).f0), .slice A112_1 ((rd_T26 l1 x10_1).f1).length c112_1, .slice A112_2 ((rd_T26 l1 x10_1).f2).length c112_2] 26 (0, 0)) (by (with_reducible repeat (first | refine blk_drewN ?_ _ | refine blk_drew ?_ | refine blk_alloc ?_ _)); exact BK113.out) hg (Kd.R_ne HO_0.out BK113.out (by decide))); have n4_ := Aside0.mk (hb); have n5_ := Aside0.mk (Kept.of_grown (S := (fun k_ => P0_ k_)) hg (by repeat (first | (with_reducible first | exact HK.out | apply Kept.alloc | apply Kept.drewN | apply Kept.drew | refine Kept.setCell ?_ (.inr GW113.out) _) | exact HK.out)) (fun k_ e_ => (HO_0.out.1 k_ e_))); have n6_ := Aside0.mk (ho); clear HO_8; clear HL112_1; clear HL112_2; clear BK113; clear HB; clear HK; clear HO_0; have HO_8 := n0_; have HL112_1 := n1_; have HL112_2 := n2_; have BK113 := n3_; have HB := n4_; have HK := n5_; have HO117 := n6_; clear n0_ n1_ n2_ n3_ n4_ n5_ n6_; clear ho hb hg hat) | ((with_reducible refine gate_callee (f := 38) rfl ?_); refine goesL_ (some 28) rfl rfl Try.func38 (by kernel_rfl) rfl #[.int .i64 (wrap64 ((((rd_T26 l1 x10_1).f1).length : Int) + t114))] rfl (by (try simp only [List.map_toArray, List.map_cons, List.map_nil]); first | done | rfl | (simp only [List.length_drop, List.length_take]; rfl)) ?_; (with_reducible refine (tlv_head.calls (wrap64 ((((rd_T26 l1 x10_1).f1).length : Int) + t114)) t118 _ A8.out).mono ?_); rintro e w' ⟨rfl, ⟨nd, rfl⟩⟩; refine ⟨_, rfl, ?_⟩) | ((with_reducible refine gate_dst (N := 49) rfl ?_); refine Kd.R_lit (Kd.int .u8) _ 5 ?hg (N := 49) ?hd (xs := ([129, (wrap64 ((((rd_T26 l1 x10_1).f1).length : Int) + t114)) % 256] : List Int)) (inner := [.int .u8 129, .int .u8 ((wrap64 ((((rd_T26 l1 x10_1).f1).length : Int) + t114)) % 256)]) (ok := fun _ => True) (okp := fun _ => True) ?hr ?hp (fun _ hk => hk) trivial (Below.refl _ _) (Nat.le_refl _) (by simp) ?_; (case hd => rfl); (case hg => rfl); (case hr => first | (go_simp; done) | (go_simp; rfl)); (case hp => exact (Reps.one (show Kd.M (Kd.int .u8) _ _ _ 129 [.int .u8 129] from rfl) (Reps.one (show Kd.M (Kd.int .u8) _ _ _ ((wrap64 ((((rd_T26 l1 x10_1).f1).length : Int) + t114)) % 256) [.int .u8 ((wrap64 ((((rd_T26 l1 x10_1).f1).length : Int) + t114)) % 256)] from rfl) (Reps.none _ _)))); intro v129 w36 ho37 hb hg_ hnew_; clear hg_ hnew_; (first | rw [← Ny128.out] at ho37 | (simp only [Int.reduceToNat] at ho37; rw [← Ny128.out] at ho37)); have n0_ := Aside0.mk (Kd.V_elder' (by (with_reducible repeat (first | apply Kd.V_alloc | apply Kd.V_drewN | apply Kd.V_drew)); exact HO_8.out) (Kd.R_base ho37) hb); have n1_ := Aside0.mk (Kd.V_elder' (by (with_reducible repeat (first | apply Kd.V_alloc | apply Kd.V_drewN | apply Kd.V_drew)); exact HL112_1.out) (Kd.R_base ho37) hb); have n2_ := Aside0.mk (Kd.V_elder' (by (with_reducible repeat (first | apply Kd.V_alloc | apply Kd.V_drewN | apply Kd.V_drew)); exact HL112_2.out) (Kd.R_base ho37) hb); have n3_ := Aside0.mk (Kd.R_elder' (by (with_reducible repeat (first | apply Kd.R_alloc | apply Kd.R_drewN | apply Kd.R_drew)); exact HO117.out) (Kd.R_base ho37) hb); have n4_ := Aside0.mk (Kd.R_lower (Kd.R_new' (Kd.R_newM (M := fun k_ => (P0_ k_ ∨ w.heap.size ≤ k_)) ho37 (by first | exact HK.out.1 | exact (show Kept w _ (fun k_ => P0_ k_) from by repeat (first | (with_reducible first | exact HK.out | apply Kept.alloc | apply Kept.drewN | apply Kept.drew | refine Kept.setCell ?_ (.inr GW113.out) _) | exact HK.out)).1) (fun k_ h_ => .inr h_)) (Kd.R_lt (by (with_reducible repeat (first | apply Kd.R_alloc | apply Kd.R_drewN | apply Kd.R_drew)); exact HO117.out))) (below_size (by repeat (first | (with_reducible first | exact HB.out | apply below_alloc | apply pw_below_drewN | apply below_drew1 | refine below_set ?_ GE113.out) | exact HB.out)))); have n5_ := Aside0.mk (blk_below (g := gb113) (o := .cells #[.int .i64 ((rd_T26 l1 x10_1).f0), .slice A112_1 ((rd_T26 l1 x10_1).f1).length c112_1, .slice A112_2 ((rd_T26 l1 x10_1).f2).length c112_2] 26 (0, 0)) (by (with_reducible repeat (first | refine blk_drewN ?_ _ | refine blk_drew ?_ | refine blk_alloc ?_ _)); exact BK113.out) hb); have n6_ := Aside0.mk (Kept.below (S := (fun k_ => P0_ k_)) (by repeat (first | (with_reducible first | exact HK.out | apply Kept.alloc | apply Kept.drewN | apply Kept.drew | refine Kept.setCell ?_ (.inr GW113.out) _) | exact HK.out)) hb); have n7_ := Aside0.mk (below_step (by repeat (first | (with_reducible first | exact HB.out | apply below_alloc | apply pw_below_drewN | apply below_drew1 | refine below_set ?_ GE113.out) | exact HB.out)) hb); clear HO_8; clear HL112_1; clear HL112_2; clear HO117; clear BK113; clear HK; clear HB; have HO_8 := n0_; have HL112_1 := n1_; have HL112_2 := n2_; have HO117 := n3_; have HO130 := n4_; have BK113 := n5_; have HK := n6_; have HB := n7_; clear n0_ n1_ n2_ n3_ n4_ n5_ n6_ n7_; clear hb ho37; obtain ⟨Ao39, co39, eo39⟩ := Kd.R_slice HO130.out; subst eo39) | ((with_reducible refine gate_builtin (b := .append) (xs := #[.tmp 46, .tmp 49]) rfl ?_); at_builtin; refine Kd.R_append_rows (Kd.int .u8) (w0 := w0) w0.heap.size rfl (.tmp 46) (.tmp 49) 22 5 (.int .u8 0) 1 rfl Try.underlying22 info5 rfl (by decide) (by omega) v116 y115 y128 _ _ _ (fun k_ => (P0_ k_ ∨ w.heap.size ≤ k_) ∧ some k_ ≠ (.slice Ao39 y128.length co39 : Value).ownBlock) (fun _ => False) rfl rfl ?aO ?aR (fun _ _ h => h) (fun _ h => h.elim) ?aF ?aB ?aS ?aL ?_; (case aR => repeat (first | exact (Kd.R_reads' HO130.out).2.2 | (with_reducible refine Kd.C_alloc ?_ _) | (with_reducible refine Kd.C_drewN ?_ _) | (with_reducible refine Kd.C_drew ?_))); (case aB => exact (by repeat (first | (with_reducible first | exact HB.out | apply below_alloc | apply pw_below_drewN | apply below_drew1 | refine below_set ?_ GE113.out) | exact HB.out))); (case aF => exact (fun k_ hk => ⟨(.inr (Nat.le_trans (by first | exact HK.out.1 | exact (show Kept w _ (fun k_ => P0_ k_) from by repeat (first | (with_reducible first | exact HK.out | apply Kept.alloc | apply Kept.drewN | apply Kept.drew | refine Kept.setCell ?_ (.inr GW113.out) _) | exact HK.out)).1) hk)), Kd.fresh' (Kd.R_lt (by (with_reducible repeat (first | apply Kd.R_alloc | apply Kd.R_drewN | apply Kd.R_drew)); exact HO130.out)) k_ hk⟩)); (case aO => exact (by (with_reducible repeat (first | apply Kd.R_alloc | apply Kd.R_drewN | apply Kd.R_drew)); exact HO117.out)); (case aS => exact (below_size (by repeat (first | (with_reducible first | exact HB.out | apply below_alloc | apply pw_below_drewN | apply below_drew1 | refine below_set ?_ GE113.out) | exact HB.out)))); (case aL => have := LMc26.out; omega); intro v132 w38 ho hb hg hat; rw [← Ny131.out] at ho; have n0_ := Aside0.mk (Kd.V_afterv (ok := (fun k_ => ((P0_ k_ ∨ P1_ k_) ∨ w.heap.size ≤ k_) ∧ some k_ ≠ (.slice Ao39 y128.length co39 : Value).ownBlock ∧ k_ ≠ gb113)) (by (with_reducible repeat (first | apply Kd.V_alloc | apply Kd.V_drewN | apply Kd.V_drew)); exact Kd.V_mono HO_8.out (fun _ hk => ⟨⟨hk.1.1.1, ⟨hk.2, hk.1.1.2⟩⟩, hk.1.2⟩)) hg hat); have n1_ := Aside0.mk (Kd.V_afterv (ok := (fun k_ => ((P0_ k_ ∨ P1_ k_) ∨ w.heap.size ≤ k_) ∧ some k_ ≠ (.slice Ao39 y128.length co39 : Value).ownBlock ∧ k_ ≠ gb113)) (by (with_reducible repeat (first | apply Kd.V_alloc | apply Kd.V_drewN | apply Kd.V_drew)); exact Kd.V_mono HL112_1.out (fun _ hk => ⟨⟨hk.1.1.1, ⟨hk.2, hk.1.1.2⟩⟩, hk.1.2⟩)) hg hat); have n2_ := Aside0.mk (Kd.V_afterv (ok := (fun k_ => ((P0_ k_ ∨ P1_ k_) ∨ w.heap.size ≤ k_) ∧ some k_ ≠ (.slice Ao39 y128.length co39 : Value).ownBlock ∧ k_ ≠ gb113)) (by (with_reducible repeat (first | apply Kd.V_alloc | apply Kd.V_drewN | apply Kd.V_drew)); exact Kd.V_mono HL112_2.out (fun _ hk => ⟨⟨hk.1.1.1, ⟨hk.2, hk.1.1.2⟩⟩, hk.1.2⟩)) hg hat); have n3_ := Aside0.mk (blk_grown (g := gb113) (o := .cells #[.int .i64 ((rd_T26 l1 x10_1).f0), .slice A112_1 ((rd_T26 l1 x10_1).f1).length c112_1, .slice A112_2 ((rd_T26 l1 x10_1).f2).length c112_2] 26 (0, 0)) (by (with_reducible repeat (first | refine blk_drewN ?_ _ | refine blk_drew ?_ | refine blk_alloc ?_ _)); exact BK113.out) hg (Kd.R_ne HO117.out BK113.out (by decide))); have n4_ := Aside0.mk (Kd.R_after (ok := (fun k_ => (P0_ k_ ∨ w.heap.size ≤ k_))) (by (with_reducible repeat (first | apply Kd.R_alloc | apply Kd.R_drewN | apply Kd.R_drew)); exact Kd.R_mono HO130.out (fun _ hk => ⟨hk.1.1, hk.2⟩)) hg hat); have n5_ := Aside0.mk (hb); have n6_ := Aside0.mk (Kept.of_grown (S := (fun k_ => P0_ k_)) hg (by repeat (first | (with_reducible first | exact HK.out | apply Kept.alloc | apply Kept.drewN | apply Kept.drew | refine Kept.setCell ?_ (.inr GW113.out) _) | exact HK.out)) (fun k_ e_ => (HO117.out.1 k_ e_).1)); have n7_ := Aside0.mk (ho); clear HO_8; clear HL112_1; clear HL112_2; clear BK113; clear HO130; clear HB; clear HK; clear HO117; have HO_8 := n0_; have HL112_1 := n1_; have HL112_2 := n2_; have BK113 := n3_; have HO130 := n4_; have HB := n5_; have HK := n6_; have HO133 := n7_; clear n0_ n1_ n2_ n3_ n4_ n5_ n6_ n7_; clear ho hb hg hat))
           have n0_ := Aside0.mk (Kd.V_drew HO_8.out)
           have n1_ := Aside0.mk (Kd.V_drew HL112_1.out)
           have n2_ := Aside0.mk (Kd.V_drew HL112_2.out)
           have n3_ := Aside0.mk (Kd.R_drew HO130.out)
           have n4_ := Aside0.mk (Kd.R_drew HO133.out)
           have n5_ := Aside0.mk (blk_drew BK113.out)
           have n6_ := Aside0.mk (Kept.drew HK.out)
           have n7_ := Aside0.mk (below_drew1 HB.out)
           clear HO_8
           clear HL112_1
           clear HL112_2
           clear HO130
           clear HO133
           clear BK113
           clear HK
           clear HB
           have HO_8 := n0_
           have HL112_1 := n1_
           have HL112_2 := n2_
           have HO130 := n3_
           have HO133 := n4_
           have BK113 := n5_
           have HK := n6_
           have HB := n7_
           clear n0_ n1_ n2_ n3_ n4_ n5_ n6_ n7_
           refine start_ (n := 8) (S := fun w' => w'.cell? ⟨gb113, 0, none⟩ = some (.int .i64 ((rd_T26 l1 x10_1).f0)) ∧ w'.cell? ⟨gb113, 1, none⟩ = some (.slice A112_1 ((rd_T26 l1 x10_1).f1).length c112_1) ∧ w'.cell? ⟨gb113, 2, none⟩ = some (.slice A112_2 ((rd_T26 l1 x10_1).f2).length c112_2)) (ds := []) #[false, false, false, false, false, false, false, false] (by kernel_rfl) rfl rfl ⟨(blk_cell BK113.out 0).trans rfl, (blk_cell BK113.out 1).trans rfl, (blk_cell BK113.out 2).trans rfl⟩ (fun hHeld => ?_); refine with_tabW tlv_put.tab12 tlv_put.bits12 (fun HT_ HW_ => ?_)
           generalize w38.drew = w40 at HO_8 HL112_1 HL112_2 HO130 HO133 BK113 HK HB hHeld ⊢
           refine pure_ (i := 0) (N := some 51) (v := ?_) (a' := ?_) #[true, false, false, false, false, false, false, false] rfl rfl (any_of HT_.out (by kernel_rfl)) (fun _ _ _ h => h) (Or.inl ⟨by rfl, ?_⟩) ?_ ?_
           rotate_left
           ·intro w'
            go_simp
            with_reducible rfl
           rotate_left
           ·simp only [Act.put, List.setIfInBounds_toArray, List.set_cons_zero, List.set_cons_succ, i64_w, i32_w]
            rfl
           refine pure_ (i := 1) (N := some 52) (v := ?_) (a' := ?_) #[true, true, false, false, false, false, false, false] rfl rfl (any_of HT_.out (by kernel_rfl)) (fun _ _ _ h => h) (Or.inl ⟨by rfl, ?_⟩) ?_ ?_
           rotate_left
           ·intro w'
            go_simp
            with_reducible rfl
           rotate_left
           ·simp only [Act.put, List.setIfInBounds_toArray, List.set_cons_zero, List.set_cons_succ, i64_w, i32_w]
            rfl
           refine pure_ (i := 4) (N := some 55) (v := ?_) (a' := ?_) #[true, true, false, false, true, false, false, false] rfl rfl (any_of HT_.out (by kernel_rfl)) (fun _ _ _ h => h) (Or.inl ⟨by rfl, ?_⟩) ?_ ?_
           rotate_left
           ·intro w'
            go_simp
            with_reducible rfl
           rotate_left
           ·simp only [Act.put, List.setIfInBounds_toArray, List.set_cons_zero, List.set_cons_succ, i64_w, i32_w]
            rfl
           refine take_ (i := 2) (N := some 53) (v := ?_) (a' := ?_) #[true, true, true, false, true, false, false, false] rfl rfl (take_ofW HT_.out HW_.out (by kernel_rfl)) (fun _ _ _ h => h) (Or.inl ⟨by rfl, ?_⟩) hHeld ?_ ?_
           rotate_left
           ·rintro w' ⟨s0, s1, s2⟩
            go_simp
            with_reducible rfl
           rotate_left
           ·simp only [Act.put, List.setIfInBounds_toArray, List.set_cons_zero, List.set_cons_succ, i64_w, i32_w]
            rfl
           refine take_ (i := 5) (N := some 56) (v := ?_) (a' := ?_) #[true, true, true, false, true, true, false, false] rfl rfl (take_ofW HT_.out HW_.out (by kernel_rfl)) (fun _ _ _ h => h) (Or.inl ⟨by rfl, ?_⟩) hHeld ?_ ?_
           rotate_left
           ·rintro w' ⟨s0, s1, s2⟩
            go_simp
            with_reducible rfl
           rotate_left
           ·simp only [Act.put, List.setIfInBounds_toArray, List.set_cons_zero, List.set_cons_succ, i64_w, i32_w]
            rfl
           refine one_ (i := 3) (N := some 54) #[true, true, true, true, true, true, false, false] rfl rfl (one_of HT_.out (by kernel_rfl)) (by decide) (fun K hK => ?_)
           refine Kd.R_append_rows_step (Kd.int .u8) (w0 := w0) w0.heap.size (by rfl) (.tmp 51) (.tmp 53) 22 5 (.int .u8 0) 1 rfl Try.underlying22 info5 rfl (by decide) (by omega) v132 y131 ((rd_T26 l1 x10_1).f1) _ _ _ (fun k_ => (P0_ k_ ∨ w.heap.size ≤ k_) ∧ some k_ ≠ (.slice Ao39 y128.length co39 : Value).ownBlock) (fun _ => False) rfl rfl ?aO ?aR (fun _ _ h => h) (fun _ h => h.elim) ?aF ?aB ?aS ?aL ?_
           (case aR => repeat (first | exact ((Kd.V_reads' (by (with_reducible repeat (first | apply Kd.V_alloc | apply Kd.V_drewN | apply Kd.V_drew)); exact HL112_1.out)).2.2) | (with_reducible refine Kd.C_alloc ?_ _) | (with_reducible refine Kd.C_drewN ?_ _) | (with_reducible refine Kd.C_drew ?_)))
           (case aB => exact (by repeat (first | (with_reducible first | exact HB.out | apply below_alloc | apply pw_below_drewN | apply below_drew1 | refine below_set ?_ GE113.out) | exact HB.out)))
           (case aF => exact (fun k_ hk => ⟨(.inr (Nat.le_trans (by first | exact HK.out.1 | exact (show Kept w _ (fun k_ => P0_ k_) from by repeat (first | (with_reducible first | exact HK.out | apply Kept.alloc | apply Kept.drewN | apply Kept.drew | refine Kept.setCell ?_ (.inr GW113.out) _) | exact HK.out)).1) hk)), Kd.fresh' (Kd.R_lt (by (with_reducible repeat (first | apply Kd.R_alloc | apply Kd.R_drewN | apply Kd.R_drew)); exact HO130.out)) k_ hk⟩))
           (case aO => exact (by (with_reducible repeat (first | apply Kd.R_alloc | apply Kd.R_drewN | apply Kd.R_drew)); exact HO133.out))
           (case aS => exact (below_size (by repeat (first | (with_reducible first | exact HB.out | apply below_alloc | apply pw_below_drewN | apply below_drew1 | refine below_set ?_ GE113.out) | exact HB.out))))
           (case aL => have := LMc27.out; omega)
           intro v135 w41 ho hb hg hat
           rw [← Ny134.out] at ho
           have n0_ := Aside0.mk (Kd.V_afterv (ok := (fun k_ => ((P0_ k_ ∨ P1_ k_) ∨ w.heap.size ≤ k_) ∧ some k_ ≠ (.slice Ao39 y128.length co39 : Value).ownBlock ∧ k_ ≠ gb113)) (by (with_reducible repeat (first | apply Kd.V_alloc | apply Kd.V_drewN | apply Kd.V_drew)); exact HO_8.out) hg hat)
           have n1_ := Aside0.mk (Kd.V_afterv (ok := (fun k_ => ((P0_ k_ ∨ P1_ k_) ∨ w.heap.size ≤ k_) ∧ some k_ ≠ (.slice Ao39 y128.length co39 : Value).ownBlock ∧ k_ ≠ gb113)) (by (with_reducible repeat (first | apply Kd.V_alloc | apply Kd.V_drewN | apply Kd.V_drew)); exact HL112_1.out) hg hat)
           have n2_ := Aside0.mk (Kd.V_afterv (ok := (fun k_ => ((P0_ k_ ∨ P1_ k_) ∨ w.heap.size ≤ k_) ∧ some k_ ≠ (.slice Ao39 y128.length co39 : Value).ownBlock ∧ k_ ≠ gb113)) (by (with_reducible repeat (first | apply Kd.V_alloc | apply Kd.V_drewN | apply Kd.V_drew)); exact HL112_2.out) hg hat)
           have n3_ := Aside0.mk (blk_grown (g := gb113) (o := .cells #[.int .i64 ((rd_T26 l1 x10_1).f0), .slice A112_1 ((rd_T26 l1 x10_1).f1).length c112_1, .slice A112_2 ((rd_T26 l1 x10_1).f2).length c112_2] 26 (0, 0)) (by (with_reducible repeat (first | refine blk_drewN ?_ _ | refine blk_drew ?_ | refine blk_alloc ?_ _)); exact BK113.out) hg (Kd.R_ne HO133.out BK113.out (by decide)))
           have n4_ := Aside0.mk (Kd.R_after (ok := (fun k_ => (P0_ k_ ∨ w.heap.size ≤ k_))) (by (with_reducible repeat (first | apply Kd.R_alloc | apply Kd.R_drewN | apply Kd.R_drew)); exact HO130.out) hg hat)
           have n5_ := Aside0.mk (hb)
           have n6_ := Aside0.mk (Kept.of_grown (S := (fun k_ => P0_ k_)) hg (by repeat (first | (with_reducible first | exact HK.out | apply Kept.alloc | apply Kept.drewN | apply Kept.drew | refine Kept.setCell ?_ (.inr GW113.out) _) | exact HK.out)) (fun k_ e_ => (HO133.out.1 k_ e_).1))
           have n7_ := Aside0.mk (ho)
           clear HO_8
           clear HL112_1
           clear HL112_2
           clear BK113
           clear HO130
           clear HB
           clear HK
           clear HO133
           have HO_8 := n0_
           have HL112_1 := n1_
           have HL112_2 := n2_
           have BK113 := n3_
           have HO130 := n4_
           have HB := n5_
           have HK := n6_
           have HO136 := n7_
           clear n0_ n1_ n2_ n3_ n4_ n5_ n6_ n7_
           clear ho hb hg hat
           obtain ⟨Ao42, co42, eo42⟩ := Kd.R_slice HO136.out
           (first | subst eo42 | (injection eo42 with f1_ f2_ f3_; have f4_ := f1_.symm; have f5_ := f3_.symm; clear f1_ f2_ f3_; subst f4_; subst f5_))
           refine hK.out _ _ ⟨(blk_cell BK113.out 0).trans rfl, (blk_cell BK113.out 1).trans rfl, (blk_cell BK113.out 2).trans rfl⟩ (fun hHeld => ?_)
           clear hK K
           refine norm_ (a' := ?_) ?_ ?_
           rotate_left
           ·show Act.put _ (some 54) _ = _
            simp only [Act.put, List.setIfInBounds_toArray, List.set_cons_zero, List.set_cons_succ, i64_w, i32_w]
            rfl
           refine one_ (i := 6) (N := some 57) #[true, true, true, true, true, true, true, false] rfl rfl (one_of HT_.out (by kernel_rfl)) (by decide) (fun K hK => ?_)
           refine goes_ Try.func26 (by kernel_rfl) rfl #[.slice Ao42 y134.length co42, .slice A112_2 ((rd_T26 l1 x10_1).f2).length c112_2] (by rfl) rfl rfl (by (try simp only [List.map_toArray, List.map_cons, List.map_nil]); first | done | rfl | (simp only [List.length_drop, List.length_take]; rfl)) ?_
           with_reducible refine (ih k1 (by have := HK1.out; omega) (fun k_ => some k_ = (.slice Ao42 y134.length co42 : Value).ownBlock) (.slice Ao42 y134.length co42) y134 (fun k_ => ((((P0_ k_ ∨ P1_ k_) ∨ w.heap.size ≤ k_) ∧ (some k_ ≠ (.slice Ao39 y128.length co39 : Value).ownBlock ∧ k_ ≠ gb113)) ∧ some k_ ≠ (.slice Ao42 y134.length co42 : Value).ownBlock)) _ _ ((rd_T26 l1 x10_1).f2) t137 w0 _ ?side1 ?side2 ?side3 A28.out).mono ?_
           (case side1 => repeat (first | (with_reducible first | exact HB.out | apply below_alloc | apply pw_below_drewN | apply below_drew1 | refine below_set ?_ GE113.out) | exact HB.out))
           (case side2 => exact Kd.R_tight rfl HO136.out)
           (case side3 => exact Kd.V_mono (HL112_2.out) (fun k_ hk_ => ⟨hk_, hk_.2⟩))
           rintro e w43 ⟨v138, rfl, ho0, hb, hkp⟩
           refine ⟨_, rfl, ?_⟩
           have n0_ := Aside0.mk (Kd.V_mono (ok' := fun k_ => ((P0_ k_ ∨ P1_ k_) ∨ w.heap.size ≤ k_) ∧ some k_ ≠ (.slice Ao39 y128.length co39 : Value).ownBlock ∧ k_ ≠ gb113 ∧ some k_ ≠ (v138 : Value).ownBlock) (Kd.V_keptB (HO_8.out) hkp (fun k_ hk_ hs_ => (hk_.2) hs_)) (fun k_ hk_ => ⟨hk_.1.1.1, hk_.1.1.2.1, hk_.1.1.2.2, fun e_ => Or.elim (ho0.1 k_ e_.symm) (fun hs_ => hk_.2.1 hs_) (fun hn_ => Nat.not_le.2 hk_.2.2 hn_)⟩))
           have n1_ := Aside0.mk (blk_kept (by (with_reducible repeat (first | refine blk_drewN ?_ _ | refine blk_drew ?_ | refine blk_alloc ?_ _)); exact BK113.out) hkp (fun hs_ => (fun e_ => (Kd.R_ne HO136.out BK113.out (by decide)) e_) hs_))
           have n2_ := Aside0.mk (Kd.R_mono (ok' := fun k_ => (P0_ k_ ∨ w.heap.size ≤ k_) ∧ some k_ ≠ (v138 : Value).ownBlock) (Kd.R_keptB (HO130.out) hkp (fun k_ hk_ hs_ => (hk_.2) hs_)) (fun k_ hk_ => ⟨hk_.1.1, fun e_ => Or.elim (ho0.1 k_ e_.symm) (fun hs_ => hk_.2.1 hs_) (fun hn_ => Nat.not_le.2 hk_.2.2 hn_)⟩))
           have n3_ := Aside0.mk (Kd.R_mono (ok' := fun k_ => (P0_ k_ ∨ w.heap.size ≤ k_) ∧ some k_ ≠ (.slice Ao39 y128.length co39 : Value).ownBlock) ho0 (fun k_ hk_ => ⟨Or.elim hk_ (fun hs_ => (HO136.out.1 k_ (hs_).symm).1) (fun hn_ => (.inr (Nat.le_trans (by first | exact HK.out.1 | exact (show Kept w _ (fun k_ => P0_ k_) from by repeat (first | (with_reducible first | exact HK.out | apply Kept.alloc | apply Kept.drewN | apply Kept.drew | refine Kept.setCell ?_ (.inr GW113.out) _) | exact HK.out)).1) hn_))), Or.elim hk_ (fun hs_ => fun e_ => (((HO130.out).1 k_ e_.symm).2) hs_) (fun hn_ => (Kd.fresh' (Kd.R_lt (by (with_reducible repeat (first | apply Kd.R_alloc | apply Kd.R_drewN | apply Kd.R_drew)); exact HO130.out)) k_ hn_))⟩))
           have n4_ := Aside0.mk (Kept.then_ (S := (fun k_ => P0_ k_)) (by repeat (first | (with_reducible first | exact HK.out | apply Kept.alloc | apply Kept.drewN | apply Kept.drew | refine Kept.setCell ?_ (.inr GW113.out) _) | exact HK.out)) hkp (fun k_ hs_ => (fun e_ => (HO136.out.1 k_ e_.symm).1) hs_))
           have n5_ := Aside0.mk (hb)
           clear HO_8
           clear BK113
           clear HO130
           clear HK
           clear HB
           clear HO136
           clear HL112_1
           clear HL112_2
           have HO_8 := n0_
           have BK113 := n1_
           have HO130 := n2_
           have HO139 := n3_
           have HK := n4_
           have HB := n5_
           clear n0_ n1_ n2_ n3_ n4_ n5_
           (try clear hb)
           (try clear hkp)
           (try clear ho0)
           refine hK.out _ _ ⟨(blk_cell BK113.out 0).trans rfl, (blk_cell BK113.out 1).trans rfl, (blk_cell BK113.out 2).trans rfl⟩ (fun hHeld => ?_)
           clear hK K
           refine norm_ (a' := ?_) ?_ ?_
           rotate_left
           ·show Act.put _ (some 57) _ = _
            simp only [Act.put, List.setIfInBounds_toArray, List.set_cons_zero, List.set_cons_succ, i64_w, i32_w]
            rfl
           refine pure_ (i := 7) (N := some 0) (v := ?_) (a' := ?_) #[true, true, true, true, true, true, true, true] rfl rfl (any_of HT_.out (by kernel_rfl)) (fun _ _ _ h => h) (Or.inl ⟨by rfl, ?_⟩) ?_ ?_
           rotate_left
           ·intro w'
            go_simp
            with_reducible rfl
           rotate_left
           ·simp only [Act.put, List.setIfInBounds_toArray, List.set_cons_zero, List.set_cons_succ, i64_w, i32_w]
            rfl
           refine done_ (done_of HT_.out (by kernel_rfl)) ?_
           try go_wp2
           go_roundg k1
           case measure => have := HK1.out; omega
           case rel => exact ⟨(t137), (wrap64 (x10_1 + 1)), (by first | rfl | (simp; done) | (simp [*]; done)), H', ⟨by have := HK1.out; omega⟩, ⟨by (with_reducible repeat (first | apply Kd.R_alloc | apply Kd.R_drewN | apply Kd.R_drew)); exact Kd.R_mono HO139.out (fun _ hk => hk.1)⟩, ⟨by (with_reducible repeat (first | apply Kd.V_alloc | apply Kd.V_drewN | apply Kd.V_drew)); exact Kd.V_mono HO_8.out (fun _ hk => ⟨hk.1, hk.2.2.2⟩)⟩, ⟨by repeat (first | (with_reducible first | exact HK.out | apply Kept.alloc | apply Kept.drewN | apply Kept.drew | refine Kept.setCell ?_ (.inr GW113.out) _) | exact HK.out)⟩, ⟨by repeat (first | (with_reducible first | exact HB.out | apply below_alloc | apply pw_below_drewN | apply below_drew1 | refine below_set ?_ GE113.out) | exact HB.out)⟩⟩
          ·rw [if_neg c27] at H
           exact absurd H (by simp)
         ·rw [if_neg c26] at H
          exact absurd H (by simp)
        ·rw [if_neg c25] at H
         have c25b0 : (t118 == 2) = false := beq_eq_false_iff_ne.mpr c25
         have c25b1 : (t118 != 2) = true := bne_iff_ne.mpr c25
         obtain ⟨y140, hy140⟩ : ∃ y_ : List Int, y_ = (([130, ((wrap64 ((((rd_T26 l1 x10_1).f1).length : Int) + t114)) / 256) % 256, (wrap64 ((((rd_T26 l1 x10_1).f1).length : Int) + t114)) % 256] : List Int)) := ⟨_, rfl⟩
         replace H : (if y115.length + y140.length < 140737488355328 then ((some (y115 ++ y140 : List Int)).bind fun y143 => (if y143.length + ((rd_T26 l1 x10_1).f1).length < 140737488355328 then ((tlv_put.f k1 (y143 ++ ((rd_T26 l1 x10_1).f1)) ((rd_T26 l1 x10_1).f2)).bind fun t149 => (tlv_put.l0 k1 t149 l1 (l1.length : Int) (wrap64 (x10_1 + 1)))) else (none))) else (none)) = some r := by first | (rw [hy140]; with_reducible exact H) | (have H2_ := (Option.bind_some _ _).symm.trans H; rw [hy140]; with_reducible exact H2_) | (have H2_ := (Option.bind_some _ _).symm.trans H; with_reducible exact H2_) | with_reducible exact H | (rw [hy140]; exact H) | exact H
         have Ny140 := Aside0.mk hy140
         clear hy140
         by_cases c44 : y115.length + y140.length < 140737488355328
         ·rw [if_pos c44] at H
          have LMc44 := Aside0.mk c44
          clear c44
          obtain ⟨y143, hy143⟩ : ∃ y_ : List Int, y_ = (y115 ++ y140) := ⟨_, rfl⟩
          replace H : (if y143.length + ((rd_T26 l1 x10_1).f1).length < 140737488355328 then ((tlv_put.f k1 (y143 ++ ((rd_T26 l1 x10_1).f1)) ((rd_T26 l1 x10_1).f2)).bind fun t149 => (tlv_put.l0 k1 t149 l1 (l1.length : Int) (wrap64 (x10_1 + 1)))) else (none)) = some r := by first | (rw [hy143]; with_reducible exact H) | (have H2_ := (Option.bind_some _ _).symm.trans H; rw [hy143]; with_reducible exact H2_) | (have H2_ := (Option.bind_some _ _).symm.trans H; with_reducible exact H2_) | with_reducible exact H | (rw [hy143]; exact H) | exact H
          have Ny143 := Aside0.mk hy143
          clear hy143
          by_cases c45 : y143.length + ((rd_T26 l1 x10_1).f1).length < 140737488355328
          ·rw [if_pos c45] at H
           have LMc45 := Aside0.mk c45
           clear c45
           obtain ⟨y146, hy146⟩ : ∃ y_ : List Int, y_ = (y143 ++ ((rd_T26 l1 x10_1).f1)) := ⟨_, rfl⟩
           replace H : ((tlv_put.f k1 y146 ((rd_T26 l1 x10_1).f2)).bind fun t149 => (tlv_put.l0 k1 t149 l1 (l1.length : Int) (wrap64 (x10_1 + 1)))) = some r := by first | (rw [hy146]; with_reducible exact H) | (have H2_ := (Option.bind_some _ _).symm.trans H; rw [hy146]; with_reducible exact H2_) | (have H2_ := (Option.bind_some _ _).symm.trans H; with_reducible exact H2_) | with_reducible exact H | (rw [hy146]; exact H) | exact H
           have Ny146 := Aside0.mk hy146
           clear hy146
           replace H := Option.bind_eq_some_iff.mp H
           obtain ⟨t149, A460, H⟩ := H
           replace H : (tlv_put.l0 k1 t149 l1 (l1.length : Int) (wrap64 (x10_1 + 1))) = some r := H
           have A46 := Aside0.mk A460
           clear A460
           have H' := Aside0.mk H
           clear H
           have p112 : 0 ≤ (x10_1 : Int) := of_decide_eq_true (by first | (with_reducible assumption) | assumption)
           have q112 : x10_1 < (l1.length : Int) := of_decide_eq_true (by first | (with_reducible assumption) | assumption)
           obtain ⟨ad112, A112_1, c112_1, A112_2, c112_2, e112, hx112_0, hx112_1, hx112_2, hl112_1, hi112_1, hl112_2, hi112_2⟩ := at_T26 (Kd.V_reads' HO_8.out).2.2 x10_1 p112 q112
           cases e112
           obtain ⟨ce112, hce112, hMe112, hcc112⟩ := Kd.V_get HO_8.out z26 x10_1 p112 (by first | exact q112 | exact of_decide_eq_true (by first | (with_reducible assumption) | assumption) | (have e_ := (Kd.V_reads' HO_8.out).1; omega))
           obtain ⟨ua112_1, uc112_1, ua112_2, uc112_2, rfl, ul112_1, ge112_1, ul112_2, ge112_2⟩ := k26_openF hMe112
           have hv112_1 := hcc112 1 _ rfl
           rw [add_field _ _ 1 (by omega)] at hv112_1
           replace hv112_1 := Option.some.inj (hv112_1.symm.trans hx112_1)
           injection hv112_1 with hva_ hvn_ hvc_
           rw [hva_] at ge112_1
           rw [hvc_] at ul112_1
           have HL112_1 := Aside0.mk (show Kd.V (Kd.int .u8) 5 _ w0.heap.size _ _ ((rd_T26 l1 x10_1).f1) from Kd.V_mk ul112_1 ge112_1)
           clear hva_ hvn_ hvc_ ge112_1 ul112_1
           have hv112_2 := hcc112 2 _ rfl
           rw [add_field _ _ 2 (by omega)] at hv112_2
           replace hv112_2 := Option.some.inj (hv112_2.symm.trans hx112_2)
           injection hv112_2 with hva_ hvn_ hvc_
           rw [hva_] at ge112_2
           rw [hvc_] at ul112_2
           have HL112_2 := Aside0.mk (show Kd.V k26 26 _ w0.heap.size _ _ ((rd_T26 l1 x10_1).f2) from Kd.V_mk ul112_2 ge112_2)
           clear hva_ hvn_ hvc_ ge112_2 ul112_2
           clear hcc112 hce112
           have HR112_1 := Aside0.mk hi112_1
           have HC112_1 := Aside0.mk hl112_1
           clear hi112_1 hl112_1
           have HR112_2 := Aside0.mk hi112_2
           have HC112_2 := Aside0.mk hl112_2
           clear hi112_2 hl112_2
           replace p112 := eq_true p112
           replace q112 := eq_true q112
           try go_wp2_with (first | ((with_reducible refine gate_dst (N := 6) rfl ?_); refine box_event ?hg (N := 6) ?hd (cs := #[.int .i64 0, .slice none 0 0, .slice none 0 0]) (t := 26) ?hr ?_; (case hd => rfl); (case hg => rfl); (case hr => first | (go_simp; done) | (go_simp; rfl)); intro gb113 hg w47 hbox hb; have n0_ := Aside0.mk (Kd.R_below (by (with_reducible repeat (first | apply Kd.R_alloc | apply Kd.R_drewN | apply Kd.R_drew)); exact HO_0.out) hb); have n1_ := Aside0.mk (Kd.V_below (Kd.V_elderB (by (with_reducible repeat (first | apply Kd.V_alloc | apply Kd.V_drewN | apply Kd.V_drew)); exact HO_8.out) gb113 (Nat.le_of_eq hg.symm)) hb); have n2_ := Aside0.mk (Kd.V_below (Kd.V_elderB (by (with_reducible repeat (first | apply Kd.V_alloc | apply Kd.V_drewN | apply Kd.V_drew)); exact HL112_1.out) gb113 (Nat.le_of_eq hg.symm)) hb); have n3_ := Aside0.mk (Kd.V_below (Kd.V_elderB (by (with_reducible repeat (first | apply Kd.V_alloc | apply Kd.V_drewN | apply Kd.V_drew)); exact HL112_2.out) gb113 (Nat.le_of_eq hg.symm)) hb); have n4_ := Aside0.mk (Kd.C_below (by repeat (first | (with_reducible exact HR112_1.out) | (with_reducible refine Kd.C_alloc ?_ _) | (with_reducible refine Kd.C_drewN ?_ _) | (with_reducible refine Kd.C_drew ?_) | exact HR112_1.out)) hb); have n5_ := Aside0.mk (Kd.C_below (by repeat (first | (with_reducible exact HR112_2.out) | (with_reducible refine Kd.C_alloc ?_ _) | (with_reducible refine Kd.C_drewN ?_ _) | (with_reducible refine Kd.C_drew ?_) | exact HR112_2.out)) hb); have n6_ := Aside0.mk (Kept.below (S := (fun k_ => P0_ k_)) (by repeat (first | (with_reducible first | exact HK.out | apply Kept.alloc | apply Kept.drewN | apply Kept.drew) | exact HK.out)) hb); have n7_ := Aside0.mk (below_step (by repeat (first | (with_reducible first | exact HB.out | apply below_alloc | apply pw_below_drewN | apply below_drew1) | exact HB.out)) hb); have n8_ := Aside0.mk (hbox); have n9_ := Aside0.mk ((by rw [hg]; exact (by first | exact HK.out.1 | exact (show Kept w _ (fun k_ => P0_ k_) from by repeat (first | (with_reducible first | exact HK.out | apply Kept.alloc | apply Kept.drewN | apply Kept.drew) | exact HK.out)).1) : w.heap.size ≤ gb113)); have n10_ := Aside0.mk ((by rw [hg]; exact (below_size (by repeat (first | (with_reducible first | exact HB.out | apply below_alloc | apply pw_below_drewN | apply below_drew1) | exact HB.out))) : w0.heap.size ≤ gb113)); clear HO_0; clear HO_8; clear HL112_1; clear HL112_2; clear HR112_1; clear HR112_2; clear HK; clear HB; have HO_0 := n0_; have HO_8 := n1_; have HL112_1 := n2_; have HL112_2 := n3_; have HR112_1 := n4_; have HR112_2 := n5_; have HK := n6_; have HB := n7_; have BK113 := n8_; have GW113 := n9_; have GE113 := n10_; clear n0_ n1_ n2_ n3_ n4_ n5_ n6_ n7_ n8_ n9_ n10_; clear hb hbox hg; have hcz48_0 : w47.cell? ⟨gb113, 0, none⟩ = some (.int .i64 0) := (blk_cell BK113.out 0).trans rfl; have hcz48_1 : w47.cell? ⟨gb113, 1, none⟩ = some (.slice none 0 0) := (blk_cell BK113.out 1).trans rfl; have hcz48_2 : w47.cell? ⟨gb113, 2, none⟩ = some (.slice none 0 0) := (blk_cell BK113.out 2).trans rfl; have hfz48_0 := blk_frozen BK113.out 0; have hfz48_1 := blk_frozen BK113.out 1; have hfz48_2 := blk_frozen BK113.out 2))
           have n0_ : Aside0 (Kd.R (Kd.int .u8) 5 (((w47.setCell ⟨gb113, 0, none⟩ (.int .i64 ((rd_T26 l1 x10_1).f0))).setCell ⟨gb113, 1, none⟩ (.slice A112_1 ((rd_T26 l1 x10_1).f1).length c112_1)).setCell ⟨gb113, 2, none⟩ (.slice A112_2 ((rd_T26 l1 x10_1).f2).length c112_2)) w0.heap.size (fun k_ => (P0_ k_ ∨ w.heap.size ≤ k_)) u0 x0_1) := ⟨by (with_reducible repeat (first | apply Kd.R_alloc | apply Kd.R_drewN | apply Kd.R_drew)); exact Kd.R_mono (Kd.R_far (p := ⟨gb113, 2, none⟩) (Kd.R_far (p := ⟨gb113, 1, none⟩) (Kd.R_far (p := ⟨gb113, 0, none⟩) (Kd.R_types HO_0.out BK113.out (by decide)) (fun _ hk => hk.2) (.int .i64 ((rd_T26 l1 x10_1).f0))) (fun _ hk => hk.2) (.slice A112_1 ((rd_T26 l1 x10_1).f1).length c112_1)) (fun _ hk => hk.2) (.slice A112_2 ((rd_T26 l1 x10_1).f2).length c112_2)) (fun _ hk => hk.1)⟩
           have n1_ : Aside0 (Kd.V k26 26 (((w47.setCell ⟨gb113, 0, none⟩ (.int .i64 ((rd_T26 l1 x10_1).f0))).setCell ⟨gb113, 1, none⟩ (.slice A112_1 ((rd_T26 l1 x10_1).f1).length c112_1)).setCell ⟨gb113, 2, none⟩ (.slice A112_2 ((rd_T26 l1 x10_1).f2).length c112_2)) w0.heap.size (fun k_ => ((P0_ k_ ∨ P1_ k_) ∨ w.heap.size ≤ k_) ∧ some k_ ≠ (u0 : Value).ownBlock ∧ k_ ≠ gb113) (.slice (some ad112) l1.length c1) l1) := ⟨by (with_reducible repeat (first | apply Kd.V_alloc | apply Kd.V_drewN | apply Kd.V_drew)); exact Kd.V_mono (Kd.V_far (p := ⟨gb113, 2, none⟩) (Kd.V_far (p := ⟨gb113, 1, none⟩) (Kd.V_far (p := ⟨gb113, 0, none⟩) (Kd.V_mono HO_8.out (fun k_ hk => (⟨hk, hk.2⟩ : _ ∧ k_ ≠ gb113))) (fun _ hk => hk.2) (.int .i64 ((rd_T26 l1 x10_1).f0))) (fun _ hk => hk.2) (.slice A112_1 ((rd_T26 l1 x10_1).f1).length c112_1)) (fun _ hk => hk.2) (.slice A112_2 ((rd_T26 l1 x10_1).f2).length c112_2)) (fun _ hk => ⟨hk.1.1.1, ⟨hk.1.1.2, hk.1.2⟩⟩)⟩
           have n2_ : Aside0 (Kd.V (Kd.int .u8) 5 (((w47.setCell ⟨gb113, 0, none⟩ (.int .i64 ((rd_T26 l1 x10_1).f0))).setCell ⟨gb113, 1, none⟩ (.slice A112_1 ((rd_T26 l1 x10_1).f1).length c112_1)).setCell ⟨gb113, 2, none⟩ (.slice A112_2 ((rd_T26 l1 x10_1).f2).length c112_2)) w0.heap.size (fun k_ => ((P0_ k_ ∨ P1_ k_) ∨ w.heap.size ≤ k_) ∧ some k_ ≠ (u0 : Value).ownBlock ∧ k_ ≠ gb113) (.slice A112_1 ((rd_T26 l1 x10_1).f1).length c112_1) ((rd_T26 l1 x10_1).f1)) := ⟨by (with_reducible repeat (first | apply Kd.V_alloc | apply Kd.V_drewN | apply Kd.V_drew)); exact Kd.V_mono (Kd.V_far (p := ⟨gb113, 2, none⟩) (Kd.V_far (p := ⟨gb113, 1, none⟩) (Kd.V_far (p := ⟨gb113, 0, none⟩) (Kd.V_mono HL112_1.out (fun k_ hk => (⟨hk, hk.2⟩ : _ ∧ k_ ≠ gb113))) (fun _ hk => hk.2) (.int .i64 ((rd_T26 l1 x10_1).f0))) (fun _ hk => hk.2) (.slice A112_1 ((rd_T26 l1 x10_1).f1).length c112_1)) (fun _ hk => hk.2) (.slice A112_2 ((rd_T26 l1 x10_1).f2).length c112_2)) (fun _ hk => ⟨hk.1.1.1, ⟨hk.1.1.2, hk.1.2⟩⟩)⟩
           have n3_ : Aside0 (Kd.V k26 26 (((w47.setCell ⟨gb113, 0, none⟩ (.int .i64 ((rd_T26 l1 x10_1).f0))).setCell ⟨gb113, 1, none⟩ (.slice A112_1 ((rd_T26 l1 x10_1).f1).length c112_1)).setCell ⟨gb113, 2, none⟩ (.slice A112_2 ((rd_T26 l1 x10_1).f2).length c112_2)) w0.heap.size (fun k_ => ((P0_ k_ ∨ P1_ k_) ∨ w.heap.size ≤ k_) ∧ some k_ ≠ (u0 : Value).ownBlock ∧ k_ ≠ gb113) (.slice A112_2 ((rd_T26 l1 x10_1).f2).length c112_2) ((rd_T26 l1 x10_1).f2)) := ⟨by (with_reducible repeat (first | apply Kd.V_alloc | apply Kd.V_drewN | apply Kd.V_drew)); exact Kd.V_mono (Kd.V_far (p := ⟨gb113, 2, none⟩) (Kd.V_far (p := ⟨gb113, 1, none⟩) (Kd.V_far (p := ⟨gb113, 0, none⟩) (Kd.V_mono HL112_2.out (fun k_ hk => (⟨hk, hk.2⟩ : _ ∧ k_ ≠ gb113))) (fun _ hk => hk.2) (.int .i64 ((rd_T26 l1 x10_1).f0))) (fun _ hk => hk.2) (.slice A112_1 ((rd_T26 l1 x10_1).f1).length c112_1)) (fun _ hk => hk.2) (.slice A112_2 ((rd_T26 l1 x10_1).f2).length c112_2)) (fun _ hk => ⟨hk.1.1.1, ⟨hk.1.1.2, hk.1.2⟩⟩)⟩
           have n4_ : Aside0 ((((w47.setCell ⟨gb113, 0, none⟩ (.int .i64 ((rd_T26 l1 x10_1).f0))).setCell ⟨gb113, 1, none⟩ (.slice A112_1 ((rd_T26 l1 x10_1).f1).length c112_1)).setCell ⟨gb113, 2, none⟩ (.slice A112_2 ((rd_T26 l1 x10_1).f2).length c112_2)).heap[gb113]? = some (.cells #[.int .i64 ((rd_T26 l1 x10_1).f0), .slice A112_1 ((rd_T26 l1 x10_1).f1).length c112_1, .slice A112_2 ((rd_T26 l1 x10_1).f2).length c112_2] 26 (0, 0))) := ⟨by (with_reducible repeat (first | refine blk_drewN ?_ _ | refine blk_drew ?_ | refine blk_alloc ?_ _)); refine blk_put (cs := #[.int .i64 ((rd_T26 l1 x10_1).f0), .slice A112_1 ((rd_T26 l1 x10_1).f1).length c112_1, .slice none 0 0]) ?_ 2 _ rfl; (with_reducible repeat (first | refine blk_drewN ?_ _ | refine blk_drew ?_ | refine blk_alloc ?_ _)); refine blk_put (cs := #[.int .i64 ((rd_T26 l1 x10_1).f0), .slice none 0 0, .slice none 0 0]) ?_ 1 _ rfl; (with_reducible repeat (first | refine blk_drewN ?_ _ | refine blk_drew ?_ | refine blk_alloc ?_ _)); refine blk_put (cs := #[.int .i64 0, .slice none 0 0, .slice none 0 0]) ?_ 0 _ rfl; (with_reducible repeat (first | refine blk_drewN ?_ _ | refine blk_drew ?_ | refine blk_alloc ?_ _)); exact BK113.out⟩
           have n5_ : Aside0 (Kept w (((w47.setCell ⟨gb113, 0, none⟩ (.int .i64 ((rd_T26 l1 x10_1).f0))).setCell ⟨gb113, 1, none⟩ (.slice A112_1 ((rd_T26 l1 x10_1).f1).length c112_1)).setCell ⟨gb113, 2, none⟩ (.slice A112_2 ((rd_T26 l1 x10_1).f2).length c112_2)) (fun k_ => P0_ k_)) := ⟨by repeat (first | (with_reducible first | exact HK.out | apply Kept.alloc | apply Kept.drewN | apply Kept.drew | refine Kept.setCell ?_ (.inr GW113.out) _) | exact HK.out)⟩
           have n6_ : Aside0 (Below w0.heap.size w0 (((w47.setCell ⟨gb113, 0, none⟩ (.int .i64 ((rd_T26 l1 x10_1).f0))).setCell ⟨gb113, 1, none⟩ (.slice A112_1 ((rd_T26 l1 x10_1).f1).length c112_1)).setCell ⟨gb113, 2, none⟩ (.slice A112_2 ((rd_T26 l1 x10_1).f2).length c112_2))) := ⟨by repeat (first | (with_reducible first | exact HB.out | apply below_alloc | apply pw_below_drewN | apply below_drew1 | refine below_set ?_ GE113.out) | exact HB.out)⟩
           (try clear HO_0)
           (try clear HO_8)
           (try clear HL112_1)
           (try clear HL112_2)
           (try clear BK113)
           (try clear HK)
           (try clear HB)
           generalize (((w47.setCell ⟨gb113, 0, none⟩ (.int .i64 ((rd_T26 l1 x10_1).f0))).setCell ⟨gb113, 1, none⟩ (.slice A112_1 ((rd_T26 l1 x10_1).f1).length c112_1)).setCell ⟨gb113, 2, none⟩ (.slice A112_2 ((rd_T26 l1 x10_1).f2).length c112_2)) = w49 at n0_ n1_ n2_ n3_ n4_ n5_ n6_ ⊢
           have HO_0 := n0_
           have HO_8 := n1_
           have HL112_1 := n2_
           have HL112_2 := n3_
           have BK113 := n4_
           have HK := n5_
           have HB := n6_
           clear n0_ n1_ n2_ n3_ n4_ n5_ n6_
           have n0_ := Aside0.mk (Kd.R_drew HO_0.out)
           have n1_ := Aside0.mk (Kd.V_drew HO_8.out)
           have n2_ := Aside0.mk (Kd.V_drew HL112_1.out)
           have n3_ := Aside0.mk (Kd.V_drew HL112_2.out)
           have n4_ := Aside0.mk (blk_drew BK113.out)
           have n5_ := Aside0.mk (Kept.drew HK.out)
           have n6_ := Aside0.mk (below_drew1 HB.out)
           clear HO_0
           clear HO_8
           clear HL112_1
           clear HL112_2
           clear BK113
           clear HK
           clear HB
           have HO_0 := n0_
           have HO_8 := n1_
           have HL112_1 := n2_
           have HL112_2 := n3_
           have BK113 := n4_
           have HK := n5_
           have HB := n6_
           clear n0_ n1_ n2_ n3_ n4_ n5_ n6_
           refine start_ (n := 8) (S := fun w' => w'.cell? ⟨gb113, 0, none⟩ = some (.int .i64 ((rd_T26 l1 x10_1).f0)) ∧ w'.cell? ⟨gb113, 1, none⟩ = some (.slice A112_1 ((rd_T26 l1 x10_1).f1).length c112_1) ∧ w'.cell? ⟨gb113, 2, none⟩ = some (.slice A112_2 ((rd_T26 l1 x10_1).f2).length c112_2)) (ds := []) #[false, false, false, false, false, false, false, false] (by kernel_rfl) rfl rfl ⟨(blk_cell BK113.out 0).trans rfl, (blk_cell BK113.out 1).trans rfl, (blk_cell BK113.out 2).trans rfl⟩ (fun hHeld => ?_); refine with_tabW tlv_put.tab4 tlv_put.bits4 (fun HT_ HW_ => ?_)
           generalize w49.drew = w50 at HO_0 HO_8 HL112_1 HL112_2 BK113 HK HB hHeld ⊢
           refine pure_ (i := 0) (N := some 14) (v := ?_) (a' := ?_) #[true, false, false, false, false, false, false, false] rfl rfl (any_of HT_.out (by kernel_rfl)) (fun _ _ _ h => h) (Or.inl ⟨by rfl, ?_⟩) ?_ ?_
           rotate_left
           ·intro w'
            go_simp
            with_reducible rfl
           rotate_left
           ·simp only [Act.put, List.setIfInBounds_toArray, List.set_cons_zero, List.set_cons_succ, i64_w, i32_w]
            rfl
           refine pure_ (i := 3) (N := some 17) (v := ?_) (a' := ?_) #[true, false, false, true, false, false, false, false] rfl rfl (any_of HT_.out (by kernel_rfl)) (fun _ _ _ h => h) (Or.inl ⟨by rfl, ?_⟩) ?_ ?_
           rotate_left
           ·intro w'
            go_simp
            with_reducible rfl
           rotate_left
           ·simp only [Act.put, List.setIfInBounds_toArray, List.set_cons_zero, List.set_cons_succ, i64_w, i32_w]
            rfl
           refine take_ (i := 1) (N := some 15) (v := ?_) (a' := ?_) #[true, true, false, true, false, false, false, false] rfl rfl (take_ofW HT_.out HW_.out (by kernel_rfl)) (fun _ _ _ h => h) (Or.inl ⟨by rfl, ?_⟩) hHeld ?_ ?_
           rotate_left
           ·rintro w' ⟨s0, s1, s2⟩
            go_simp
            with_reducible rfl
           rotate_left
           ·simp only [Act.put, List.setIfInBounds_toArray, List.set_cons_zero, List.set_cons_succ, i64_w, i32_w]
            rfl
           refine pure_ (i := 2) (N := some 16) (v := ?_) (a' := ?_) #[true, true, true, true, false, false, false, false] rfl rfl (any_of HT_.out (by kernel_rfl)) (fun _ _ _ h => h) (Or.inl ⟨by rfl, ?_⟩) ?_ ?_
           rotate_left
           ·intro w'
            go_simp
            with_reducible rfl
           rotate_left
           ·simp only [Act.put, List.setIfInBounds_toArray, List.set_cons_zero, List.set_cons_succ, i64_w, i32_w]
            rfl
           refine take_ (i := 4) (N := some 18) (v := ?_) (a' := ?_) #[true, true, true, true, true, false, false, false] rfl rfl (take_ofW HT_.out HW_.out (by kernel_rfl)) (fun _ _ _ h => h) (Or.inl ⟨by rfl, ?_⟩) hHeld ?_ ?_
           rotate_left
           ·rintro w' ⟨s0, s1, s2⟩
            go_simp
            with_reducible rfl
           rotate_left
           ·simp only [Act.put, List.setIfInBounds_toArray, List.set_cons_zero, List.set_cons_succ, i64_w, i32_w]
            rfl
           refine one_ (i := 5) (N := some 19) #[true, true, true, true, true, true, false, false] rfl rfl (one_of HT_.out (by kernel_rfl)) (by decide) (fun K hK => ?_)
           refine goes_ Try.func25 (by kernel_rfl) rfl #[.slice A112_2 ((rd_T26 l1 x10_1).f2).length c112_2] (by rfl) rfl rfl (by (try simp only [List.map_toArray, List.map_cons, List.map_nil]); first | done | rfl | (simp only [List.length_drop, List.length_take]; rfl)) ?_
           with_reducible refine (tlv_size.calls k1 _ _ ((rd_T26 l1 x10_1).f2) t114 _ ?side1 ?side2 A6.out).mono ?_
           (case side1 => repeat (first | exact ((Kd.V_reads' (by (with_reducible repeat (first | apply Kd.V_alloc | apply Kd.V_drewN | apply Kd.V_drew)); exact HL112_2.out)).2.2) | (with_reducible refine Kd.C_alloc ?_ _) | (with_reducible refine Kd.C_drewN ?_ _) | (with_reducible refine Kd.C_drew ?_)))
           (case side2 => exact HC112_2.out)
           rintro e w51 ⟨rfl, hb⟩
           refine ⟨_, rfl, ?_⟩
           have n0_ := Aside0.mk (Kd.R_below (by (with_reducible repeat (first | apply Kd.R_alloc | apply Kd.R_drewN | apply Kd.R_drew)); exact HO_0.out) hb)
           have n1_ := Aside0.mk (Kd.V_below (by (with_reducible repeat (first | apply Kd.V_alloc | apply Kd.V_drewN | apply Kd.V_drew)); exact HO_8.out) hb)
           have n2_ := Aside0.mk (Kd.V_below (by (with_reducible repeat (first | apply Kd.V_alloc | apply Kd.V_drewN | apply Kd.V_drew)); exact HL112_1.out) hb)
           have n3_ := Aside0.mk (Kd.V_below (by (with_reducible repeat (first | apply Kd.V_alloc | apply Kd.V_drewN | apply Kd.V_drew)); exact HL112_2.out) hb)
           have n4_ := Aside0.mk (blk_below (g := gb113) (o := .cells #[.int .i64 ((rd_T26 l1 x10_1).f0), .slice A112_1 ((rd_T26 l1 x10_1).f1).length c112_1, .slice A112_2 ((rd_T26 l1 x10_1).f2).length c112_2] 26 (0, 0)) (by (with_reducible repeat (first | refine blk_drewN ?_ _ | refine blk_drew ?_ | refine blk_alloc ?_ _)); exact BK113.out) hb)
           have n5_ := Aside0.mk (Kept.below (S := (fun k_ => P0_ k_)) (by repeat (first | (with_reducible first | exact HK.out | apply Kept.alloc | apply Kept.drewN | apply Kept.drew | refine Kept.setCell ?_ (.inr GW113.out) _) | exact HK.out)) hb)
           have n6_ := Aside0.mk (below_step (by repeat (first | (with_reducible first | exact HB.out | apply below_alloc | apply pw_below_drewN | apply below_drew1 | refine below_set ?_ GE113.out) | exact HB.out)) hb)
           clear HO_0
           clear HO_8
           clear HL112_1
           clear HL112_2
           clear BK113
           clear HK
           clear HB
           have HO_0 := n0_
           have HO_8 := n1_
           have HL112_1 := n2_
           have HL112_2 := n3_
           have BK113 := n4_
           have HK := n5_
           have HB := n6_
           clear n0_ n1_ n2_ n3_ n4_ n5_ n6_
           (try clear hb)
           (try clear hb2)
           (try clear hk)
           (try clear hi)
           refine hK.out _ _ ⟨(blk_cell BK113.out 0).trans rfl, (blk_cell BK113.out 1).trans rfl, (blk_cell BK113.out 2).trans rfl⟩ (fun hHeld => ?_)
           clear hK K
           refine norm_ (a' := ?_) ?_ ?_
           rotate_left
           ·show Act.put _ (some 19) _ = _
            simp only [Act.put, List.setIfInBounds_toArray, List.set_cons_zero, List.set_cons_succ, i64_w, i32_w]
            rfl
           refine pure_ (i := 6) (N := some 20) (v := ?_) (a' := ?_) #[true, true, true, true, true, true, true, false] rfl rfl (any_of HT_.out (by kernel_rfl)) (fun _ _ _ h => h) (Or.inl ⟨by rfl, ?_⟩) ?_ ?_
           rotate_left
           ·intro w'
            go_simp
            with_reducible rfl
           rotate_left
           ·simp only [Act.put, List.setIfInBounds_toArray, List.set_cons_zero, List.set_cons_succ, i64_w, i32_w]
            rfl
           refine pure_ (i := 7) (N := some 7) (v := ?_) (a' := ?_) #[true, true, true, true, true, true, true, true] rfl rfl (any_of HT_.out (by kernel_rfl)) (fun _ _ _ h => h) (Or.inl ⟨by rfl, ?_⟩) ?_ ?_
           rotate_left
           ·intro w'
            go_simp
            with_reducible rfl
           rotate_left
           ·simp only [Act.put, List.setIfInBounds_toArray, List.set_cons_zero, List.set_cons_succ, i64_w, i32_w]
            rfl
           refine done_ (done_of HT_.out (by kernel_rfl)) ?_
           have hcz52_0 : w51.cell? ⟨gb113, 0, none⟩ = some (.int .i64 ((rd_T26 l1 x10_1).f0)) := (blk_cell BK113.out 0).trans rfl
           have hcz52_1 : w51.cell? ⟨gb113, 1, none⟩ = some (.slice A112_1 ((rd_T26 l1 x10_1).f1).length c112_1) := (blk_cell BK113.out 1).trans rfl
           have hcz52_2 : w51.cell? ⟨gb113, 2, none⟩ = some (.slice A112_2 ((rd_T26 l1 x10_1).f2).length c112_2) := (blk_cell BK113.out 2).trans rfl
           have hfz52_0 := blk_frozen BK113.out 0
           have hfz52_1 := blk_frozen BK113.out 1
           have hfz52_2 := blk_frozen BK113.out 2
           try go_wp2_with (first | ((with_reducible refine gate_builtin (b := .append) (xs := #[.tmp 21, .tmp 25]) rfl ?_); at_builtin; refine Kd.R_append (Kd.int .u8) (w0 := w0) w0.heap.size rfl (.tmp 21) (.tmp 25) 22 5 (.int .u8 0) 1 rfl Try.underlying22 info5 rfl (by decide) (by omega) u0 x0_1 (((rd_T26 l1 x10_1).f0) % 256) [.int .u8 (((rd_T26 l1 x10_1).f0) % 256)] (fun k_ => (P0_ k_ ∨ w.heap.size ≤ k_)) (fun _ => False) rfl rfl ?aP (fun _ hk => hk.elim) ?aF ?aO ?aB ?aS ?aL ?_; (case aP => exact rfl); (case aB => exact (by repeat (first | (with_reducible first | exact HB.out | apply below_alloc | apply pw_below_drewN | apply below_drew1 | refine below_set ?_ GE113.out) | exact HB.out))); (case aF => exact (fun k_ hk => (.inr (Nat.le_trans (by first | exact HK.out.1 | exact (show Kept w _ (fun k_ => P0_ k_) from by repeat (first | (with_reducible first | exact HK.out | apply Kept.alloc | apply Kept.drewN | apply Kept.drew | refine Kept.setCell ?_ (.inr GW113.out) _) | exact HK.out)).1) hk)))); (case aO => exact (by (with_reducible repeat (first | apply Kd.R_alloc | apply Kd.R_drewN | apply Kd.R_drew)); exact HO_0.out)); (case aS => exact (below_size (by repeat (first | (with_reducible first | exact HB.out | apply below_alloc | apply pw_below_drewN | apply below_drew1 | refine below_set ?_ GE113.out) | exact HB.out)))); (case aL => have := LMc7.out; omega); intro v116 w53 ho hb hg hat; rw [← Ny115.out] at ho; have n0_ := Aside0.mk (Kd.V_afterv (ok := (fun k_ => ((P0_ k_ ∨ P1_ k_) ∨ w.heap.size ≤ k_) ∧ k_ ≠ gb113)) (by (with_reducible repeat (first | apply Kd.V_alloc | apply Kd.V_drewN | apply Kd.V_drew)); exact Kd.V_mono HO_8.out (fun _ hk => ⟨⟨hk.1, hk.2.2⟩, hk.2.1⟩)) hg hat); have n1_ := Aside0.mk (Kd.V_afterv (ok := (fun k_ => ((P0_ k_ ∨ P1_ k_) ∨ w.heap.size ≤ k_) ∧ k_ ≠ gb113)) (by (with_reducible repeat (first | apply Kd.V_alloc | apply Kd.V_drewN | apply Kd.V_drew)); exact Kd.V_mono HL112_1.out (fun _ hk => ⟨⟨hk.1, hk.2.2⟩, hk.2.1⟩)) hg hat); have n2_ := Aside0.mk (Kd.V_afterv (ok := (fun k_ => ((P0_ k_ ∨ P1_ k_) ∨ w.heap.size ≤ k_) ∧ k_ ≠ gb113)) (by (with_reducible repeat (first | apply Kd.V_alloc | apply Kd.V_drewN | apply Kd.V_drew)); exact Kd.V_mono HL112_2.out (fun _ hk => ⟨⟨hk.1, hk.2.2⟩, hk.2.1⟩)) hg hat); have n3_ := Aside0.mk (blk_grown (g := gb113) (o := .cells #[.int .i64 ((rd_T26 l1 x10_1).f0), .slice A112_1 ((rd_T26 l1 x10_1).f1).length c112_1, .slice A112_2 ((rd_T26 l1 x10_1).f2).length c112_2] 26 (0, 0)) (by (with_reducible repeat (first | refine blk_drewN ?_ _ | refine blk_drew ?_ | refine blk_alloc ?_ _)); exact BK113.out) hg (Kd.R_ne HO_0.out BK113.out (by decide))); have n4_ := Aside0.mk (hb); have n5_ := Aside0.mk (Kept.of_grown (S := (fun k_ => P0_ k_)) hg (by repeat (first | (with_reducible first | exact HK.out | apply Kept.alloc | apply Kept.drewN | apply Kept.drew | refine Kept.setCell ?_ (.inr GW113.out) _) | exact HK.out)) (fun k_ e_ => (HO_0.out.1 k_ e_))); have n6_ := Aside0.mk (ho); clear HO_8; clear HL112_1; clear HL112_2; clear BK113; clear HB; clear HK; clear HO_0; have HO_8 := n0_; have HL112_1 := n1_; have HL112_2 := n2_; have BK113 := n3_; have HB := n4_; have HK := n5_; have HO117 := n6_; clear n0_ n1_ n2_ n3_ n4_ n5_ n6_; clear ho hb hg hat) | ((with_reducible refine gate_callee (f := 38) rfl ?_); refine goesL_ (some 28) rfl rfl Try.func38 (by kernel_rfl) rfl #[.int .i64 (wrap64 ((((rd_T26 l1 x10_1).f1).length : Int) + t114))] rfl (by (try simp only [List.map_toArray, List.map_cons, List.map_nil]); first | done | rfl | (simp only [List.length_drop, List.length_take]; rfl)) ?_; (with_reducible refine (tlv_head.calls (wrap64 ((((rd_T26 l1 x10_1).f1).length : Int) + t114)) t118 _ A8.out).mono ?_); rintro e w' ⟨rfl, ⟨nd, rfl⟩⟩; refine ⟨_, rfl, ?_⟩) | ((with_reducible refine gate_dst (N := 35) rfl ?_); refine Kd.R_lit (Kd.int .u8) _ 5 ?hg (N := 35) ?hd (xs := ([130, ((wrap64 ((((rd_T26 l1 x10_1).f1).length : Int) + t114)) / 256) % 256, (wrap64 ((((rd_T26 l1 x10_1).f1).length : Int) + t114)) % 256] : List Int)) (inner := [.int .u8 130, .int .u8 (((wrap64 ((((rd_T26 l1 x10_1).f1).length : Int) + t114)) / 256) % 256), .int .u8 ((wrap64 ((((rd_T26 l1 x10_1).f1).length : Int) + t114)) % 256)]) (ok := fun _ => True) (okp := fun _ => True) ?hr ?hp (fun _ hk => hk) trivial (Below.refl _ _) (Nat.le_refl _) (by simp) ?_; (case hd => rfl); (case hg => rfl); (case hr => first | (go_simp; done) | (go_simp; rfl)); (case hp => exact (Reps.one (show Kd.M (Kd.int .u8) _ _ _ 130 [.int .u8 130] from rfl) (Reps.one (show Kd.M (Kd.int .u8) _ _ _ (((wrap64 ((((rd_T26 l1 x10_1).f1).length : Int) + t114)) / 256) % 256) [.int .u8 (((wrap64 ((((rd_T26 l1 x10_1).f1).length : Int) + t114)) / 256) % 256)] from rfl) (Reps.one (show Kd.M (Kd.int .u8) _ _ _ ((wrap64 ((((rd_T26 l1 x10_1).f1).length : Int) + t114)) % 256) [.int .u8 ((wrap64 ((((rd_T26 l1 x10_1).f1).length : Int) + t114)) % 256)] from rfl) (Reps.none _ _))))); intro v141 w54 ho55 hb hg_ hnew_; clear hg_ hnew_; (first | rw [← Ny140.out] at ho55 | (simp only [Int.reduceToNat] at ho55; rw [← Ny140.out] at ho55)); have n0_ := Aside0.mk (Kd.V_elder' (by (with_reducible repeat (first | apply Kd.V_alloc | apply Kd.V_drewN | apply Kd.V_drew)); exact HO_8.out) (Kd.R_base ho55) hb); have n1_ := Aside0.mk (Kd.V_elder' (by (with_reducible repeat (first | apply Kd.V_alloc | apply Kd.V_drewN | apply Kd.V_drew)); exact HL112_1.out) (Kd.R_base ho55) hb); have n2_ := Aside0.mk (Kd.V_elder' (by (with_reducible repeat (first | apply Kd.V_alloc | apply Kd.V_drewN | apply Kd.V_drew)); exact HL112_2.out) (Kd.R_base ho55) hb); have n3_ := Aside0.mk (Kd.R_elder' (by (with_reducible repeat (first | apply Kd.R_alloc | apply Kd.R_drewN | apply Kd.R_drew)); exact HO117.out) (Kd.R_base ho55) hb); have n4_ := Aside0.mk (Kd.R_lower (Kd.R_new' (Kd.R_newM (M := fun k_ => (P0_ k_ ∨ w.heap.size ≤ k_)) ho55 (by first | exact HK.out.1 | exact (show Kept w _ (fun k_ => P0_ k_) from by repeat (first | (with_reducible first | exact HK.out | apply Kept.alloc | apply Kept.drewN | apply Kept.drew | refine Kept.setCell ?_ (.inr GW113.out) _) | exact HK.out)).1) (fun k_ h_ => .inr h_)) (Kd.R_lt (by (with_reducible repeat (first | apply Kd.R_alloc | apply Kd.R_drewN | apply Kd.R_drew)); exact HO117.out))) (below_size (by repeat (first | (with_reducible first | exact HB.out | apply below_alloc | apply pw_below_drewN | apply below_drew1 | refine below_set ?_ GE113.out) | exact HB.out)))); have n5_ := Aside0.mk (blk_below (g := gb113) (o := .cells #[.int .i64 ((rd_T26 l1 x10_1).f0), .slice A112_1 ((rd_T26 l1 x10_1).f1).length c112_1, .slice A112_2 ((rd_T26 l1 x10_1).f2).length c112_2] 26 (0, 0)) (by (with_reducible repeat (first | refine blk_drewN ?_ _ | refine blk_drew ?_ | refine blk_alloc ?_ _)); exact BK113.out) hb); have n6_ := Aside0.mk (Kept.below (S := (fun k_ => P0_ k_)) (by repeat (first | (with_reducible first | exact HK.out | apply Kept.alloc | apply Kept.drewN | apply Kept.drew | refine Kept.setCell ?_ (.inr GW113.out) _) | exact HK.out)) hb); have n7_ := Aside0.mk (below_step (by repeat (first | (with_reducible first | exact HB.out | apply below_alloc | apply pw_below_drewN | apply below_drew1 | refine below_set ?_ GE113.out) | exact HB.out)) hb); clear HO_8; clear HL112_1; clear HL112_2; clear HO117; clear BK113; clear HK; clear HB; have HO_8 := n0_; have HL112_1 := n1_; have HL112_2 := n2_; have HO117 := n3_; have HO142 := n4_; have BK113 := n5_; have HK := n6_; have HB := n7_; clear n0_ n1_ n2_ n3_ n4_ n5_ n6_ n7_; clear hb ho55; obtain ⟨Ao57, co57, eo57⟩ := Kd.R_slice HO142.out; subst eo57) | ((with_reducible refine gate_builtin (b := .append) (xs := #[.tmp 29, .tmp 35]) rfl ?_); at_builtin; refine Kd.R_append_rows (Kd.int .u8) (w0 := w0) w0.heap.size rfl (.tmp 29) (.tmp 35) 22 5 (.int .u8 0) 1 rfl Try.underlying22 info5 rfl (by decide) (by omega) v116 y115 y140 _ _ _ (fun k_ => (P0_ k_ ∨ w.heap.size ≤ k_) ∧ some k_ ≠ (.slice Ao57 y140.length co57 : Value).ownBlock) (fun _ => False) rfl rfl ?aO ?aR (fun _ _ h => h) (fun _ h => h.elim) ?aF ?aB ?aS ?aL ?_; (case aR => repeat (first | exact (Kd.R_reads' HO142.out).2.2 | (with_reducible refine Kd.C_alloc ?_ _) | (with_reducible refine Kd.C_drewN ?_ _) | (with_reducible refine Kd.C_drew ?_))); (case aB => exact (by repeat (first | (with_reducible first | exact HB.out | apply below_alloc | apply pw_below_drewN | apply below_drew1 | refine below_set ?_ GE113.out) | exact HB.out))); (case aF => exact (fun k_ hk => ⟨(.inr (Nat.le_trans (by first | exact HK.out.1 | exact (show Kept w _ (fun k_ => P0_ k_) from by repeat (first | (with_reducible first | exact HK.out | apply Kept.alloc | apply Kept.drewN | apply Kept.drew | refine Kept.setCell ?_ (.inr GW113.out) _) | exact HK.out)).1) hk)), Kd.fresh' (Kd.R_lt (by (with_reducible repeat (first | apply Kd.R_alloc | apply Kd.R_drewN | apply Kd.R_drew)); exact HO142.out)) k_ hk⟩)); (case aO => exact (by (with_reducible repeat (first | apply Kd.R_alloc | apply Kd.R_drewN | apply Kd.R_drew)); exact HO117.out)); (case aS => exact (below_size (by repeat (first | (with_reducible first | exact HB.out | apply below_alloc | apply pw_below_drewN | apply below_drew1 | refine below_set ?_ GE113.out) | exact HB.out)))); (case aL => have := LMc44.out; omega); intro v144 w56 ho hb hg hat; rw [← Ny143.out] at ho; have n0_ := Aside0.mk (Kd.V_afterv (ok := (fun k_ => ((P0_ k_ ∨ P1_ k_) ∨ w.heap.size ≤ k_) ∧ some k_ ≠ (.slice Ao57 y140.length co57 : Value).ownBlock ∧ k_ ≠ gb113)) (by (with_reducible repeat (first | apply Kd.V_alloc | apply Kd.V_drewN | apply Kd.V_drew)); exact Kd.V_mono HO_8.out (fun _ hk => ⟨⟨hk.1.1.1, ⟨hk.2, hk.1.1.2⟩⟩, hk.1.2⟩)) hg hat); have n1_ := Aside0.mk (Kd.V_afterv (ok := (fun k_ => ((P0_ k_ ∨ P1_ k_) ∨ w.heap.size ≤ k_) ∧ some k_ ≠ (.slice Ao57 y140.length co57 : Value).ownBlock ∧ k_ ≠ gb113)) (by (with_reducible repeat (first | apply Kd.V_alloc | apply Kd.V_drewN | apply Kd.V_drew)); exact Kd.V_mono HL112_1.out (fun _ hk => ⟨⟨hk.1.1.1, ⟨hk.2, hk.1.1.2⟩⟩, hk.1.2⟩)) hg hat); have n2_ := Aside0.mk (Kd.V_afterv (ok := (fun k_ => ((P0_ k_ ∨ P1_ k_) ∨ w.heap.size ≤ k_) ∧ some k_ ≠ (.slice Ao57 y140.length co57 : Value).ownBlock ∧ k_ ≠ gb113)) (by (with_reducible repeat (first | apply Kd.V_alloc | apply Kd.V_drewN | apply Kd.V_drew)); exact Kd.V_mono HL112_2.out (fun _ hk => ⟨⟨hk.1.1.1, ⟨hk.2, hk.1.1.2⟩⟩, hk.1.2⟩)) hg hat); have n3_ := Aside0.mk (blk_grown (g := gb113) (o := .cells #[.int .i64 ((rd_T26 l1 x10_1).f0), .slice A112_1 ((rd_T26 l1 x10_1).f1).length c112_1, .slice A112_2 ((rd_T26 l1 x10_1).f2).length c112_2] 26 (0, 0)) (by (with_reducible repeat (first | refine blk_drewN ?_ _ | refine blk_drew ?_ | refine blk_alloc ?_ _)); exact BK113.out) hg (Kd.R_ne HO117.out BK113.out (by decide))); have n4_ := Aside0.mk (Kd.R_after (ok := (fun k_ => (P0_ k_ ∨ w.heap.size ≤ k_))) (by (with_reducible repeat (first | apply Kd.R_alloc | apply Kd.R_drewN | apply Kd.R_drew)); exact Kd.R_mono HO142.out (fun _ hk => ⟨hk.1.1, hk.2⟩)) hg hat); have n5_ := Aside0.mk (hb); have n6_ := Aside0.mk (Kept.of_grown (S := (fun k_ => P0_ k_)) hg (by repeat (first | (with_reducible first | exact HK.out | apply Kept.alloc | apply Kept.drewN | apply Kept.drew | refine Kept.setCell ?_ (.inr GW113.out) _) | exact HK.out)) (fun k_ e_ => (HO117.out.1 k_ e_).1)); have n7_ := Aside0.mk (ho); clear HO_8; clear HL112_1; clear HL112_2; clear BK113; clear HO142; clear HB; clear HK; clear HO117; have HO_8 := n0_; have HL112_1 := n1_; have HL112_2 := n2_; have BK113 := n3_; have HO142 := n4_; have HB := n5_; have HK := n6_; have HO145 := n7_; clear n0_ n1_ n2_ n3_ n4_ n5_ n6_ n7_; clear ho hb hg hat))
           have n0_ := Aside0.mk (Kd.V_drew HO_8.out)
           have n1_ := Aside0.mk (Kd.V_drew HL112_1.out)
           have n2_ := Aside0.mk (Kd.V_drew HL112_2.out)
           have n3_ := Aside0.mk (Kd.R_drew HO142.out)
           have n4_ := Aside0.mk (Kd.R_drew HO145.out)
           have n5_ := Aside0.mk (blk_drew BK113.out)
           have n6_ := Aside0.mk (Kept.drew HK.out)
           have n7_ := Aside0.mk (below_drew1 HB.out)
           clear HO_8
           clear HL112_1
           clear HL112_2
           clear HO142
           clear HO145
           clear BK113
           clear HK
           clear HB
           have HO_8 := n0_
           have HL112_1 := n1_
           have HL112_2 := n2_
           have HO142 := n3_
           have HO145 := n4_
           have BK113 := n5_
           have HK := n6_
           have HB := n7_
           clear n0_ n1_ n2_ n3_ n4_ n5_ n6_ n7_
           refine start_ (n := 8) (S := fun w' => w'.cell? ⟨gb113, 0, none⟩ = some (.int .i64 ((rd_T26 l1 x10_1).f0)) ∧ w'.cell? ⟨gb113, 1, none⟩ = some (.slice A112_1 ((rd_T26 l1 x10_1).f1).length c112_1) ∧ w'.cell? ⟨gb113, 2, none⟩ = some (.slice A112_2 ((rd_T26 l1 x10_1).f2).length c112_2)) (ds := []) #[false, false, false, false, false, false, false, false] (by kernel_rfl) rfl rfl ⟨(blk_cell BK113.out 0).trans rfl, (blk_cell BK113.out 1).trans rfl, (blk_cell BK113.out 2).trans rfl⟩ (fun hHeld => ?_); refine with_tabW tlv_put.tab12 tlv_put.bits12 (fun HT_ HW_ => ?_)
           generalize w56.drew = w58 at HO_8 HL112_1 HL112_2 HO142 HO145 BK113 HK HB hHeld ⊢
           refine pure_ (i := 0) (N := some 51) (v := ?_) (a' := ?_) #[true, false, false, false, false, false, false, false] rfl rfl (any_of HT_.out (by kernel_rfl)) (fun _ _ _ h => h) (Or.inl ⟨by rfl, ?_⟩) ?_ ?_
           rotate_left
           ·intro w'
            go_simp
            with_reducible rfl
           rotate_left
           ·simp only [Act.put, List.setIfInBounds_toArray, List.set_cons_zero, List.set_cons_succ, i64_w, i32_w]
            rfl
           refine pure_ (i := 1) (N := some 52) (v := ?_) (a' := ?_) #[true, true, false, false, false, false, false, false] rfl rfl (any_of HT_.out (by kernel_rfl)) (fun _ _ _ h => h) (Or.inl ⟨by rfl, ?_⟩) ?_ ?_
           rotate_left
           ·intro w'
            go_simp
            with_reducible rfl
           rotate_left
           ·simp only [Act.put, List.setIfInBounds_toArray, List.set_cons_zero, List.set_cons_succ, i64_w, i32_w]
            rfl
           refine pure_ (i := 4) (N := some 55) (v := ?_) (a' := ?_) #[true, true, false, false, true, false, false, false] rfl rfl (any_of HT_.out (by kernel_rfl)) (fun _ _ _ h => h) (Or.inl ⟨by rfl, ?_⟩) ?_ ?_
           rotate_left
           ·intro w'
            go_simp
            with_reducible rfl
           rotate_left
           ·simp only [Act.put, List.setIfInBounds_toArray, List.set_cons_zero, List.set_cons_succ, i64_w, i32_w]
            rfl
           refine take_ (i := 2) (N := some 53) (v := ?_) (a' := ?_) #[true, true, true, false, true, false, false, false] rfl rfl (take_ofW HT_.out HW_.out (by kernel_rfl)) (fun _ _ _ h => h) (Or.inl ⟨by rfl, ?_⟩) hHeld ?_ ?_
           rotate_left
           ·rintro w' ⟨s0, s1, s2⟩
            go_simp
            with_reducible rfl
           rotate_left
           ·simp only [Act.put, List.setIfInBounds_toArray, List.set_cons_zero, List.set_cons_succ, i64_w, i32_w]
            rfl
           refine take_ (i := 5) (N := some 56) (v := ?_) (a' := ?_) #[true, true, true, false, true, true, false, false] rfl rfl (take_ofW HT_.out HW_.out (by kernel_rfl)) (fun _ _ _ h => h) (Or.inl ⟨by rfl, ?_⟩) hHeld ?_ ?_
           rotate_left
           ·rintro w' ⟨s0, s1, s2⟩
            go_simp
            with_reducible rfl
           rotate_left
           ·simp only [Act.put, List.setIfInBounds_toArray, List.set_cons_zero, List.set_cons_succ, i64_w, i32_w]
            rfl
           refine one_ (i := 3) (N := some 54) #[true, true, true, true, true, true, false, false] rfl rfl (one_of HT_.out (by kernel_rfl)) (by decide) (fun K hK => ?_)
           refine Kd.R_append_rows_step (Kd.int .u8) (w0 := w0) w0.heap.size (by rfl) (.tmp 51) (.tmp 53) 22 5 (.int .u8 0) 1 rfl Try.underlying22 info5 rfl (by decide) (by omega) v144 y143 ((rd_T26 l1 x10_1).f1) _ _ _ (fun k_ => (P0_ k_ ∨ w.heap.size ≤ k_) ∧ some k_ ≠ (.slice Ao57 y140.length co57 : Value).ownBlock) (fun _ => False) rfl rfl ?aO ?aR (fun _ _ h => h) (fun _ h => h.elim) ?aF ?aB ?aS ?aL ?_
           (case aR => repeat (first | exact ((Kd.V_reads' (by (with_reducible repeat (first | apply Kd.V_alloc | apply Kd.V_drewN | apply Kd.V_drew)); exact HL112_1.out)).2.2) | (with_reducible refine Kd.C_alloc ?_ _) | (with_reducible refine Kd.C_drewN ?_ _) | (with_reducible refine Kd.C_drew ?_)))
           (case aB => exact (by repeat (first | (with_reducible first | exact HB.out | apply below_alloc | apply pw_below_drewN | apply below_drew1 | refine below_set ?_ GE113.out) | exact HB.out)))
           (case aF => exact (fun k_ hk => ⟨(.inr (Nat.le_trans (by first | exact HK.out.1 | exact (show Kept w _ (fun k_ => P0_ k_) from by repeat (first | (with_reducible first | exact HK.out | apply Kept.alloc | apply Kept.drewN | apply Kept.drew | refine Kept.setCell ?_ (.inr GW113.out) _) | exact HK.out)).1) hk)), Kd.fresh' (Kd.R_lt (by (with_reducible repeat (first | apply Kd.R_alloc | apply Kd.R_drewN | apply Kd.R_drew)); exact HO142.out)) k_ hk⟩))
           (case aO => exact (by (with_reducible repeat (first | apply Kd.R_alloc | apply Kd.R_drewN | apply Kd.R_drew)); exact HO145.out))
           (case aS => exact (below_size (by repeat (first | (with_reducible first | exact HB.out | apply below_alloc | apply pw_below_drewN | apply below_drew1 | refine below_set ?_ GE113.out) | exact HB.out))))
           (case aL => have := LMc45.out; omega)
           intro v147 w59 ho hb hg hat
           rw [← Ny146.out] at ho
           have n0_ := Aside0.mk (Kd.V_afterv (ok := (fun k_ => ((P0_ k_ ∨ P1_ k_) ∨ w.heap.size ≤ k_) ∧ some k_ ≠ (.slice Ao57 y140.length co57 : Value).ownBlock ∧ k_ ≠ gb113)) (by (with_reducible repeat (first | apply Kd.V_alloc | apply Kd.V_drewN | apply Kd.V_drew)); exact HO_8.out) hg hat)
           have n1_ := Aside0.mk (Kd.V_afterv (ok := (fun k_ => ((P0_ k_ ∨ P1_ k_) ∨ w.heap.size ≤ k_) ∧ some k_ ≠ (.slice Ao57 y140.length co57 : Value).ownBlock ∧ k_ ≠ gb113)) (by (with_reducible repeat (first | apply Kd.V_alloc | apply Kd.V_drewN | apply Kd.V_drew)); exact HL112_1.out) hg hat)
           have n2_ := Aside0.mk (Kd.V_afterv (ok := (fun k_ => ((P0_ k_ ∨ P1_ k_) ∨ w.heap.size ≤ k_) ∧ some k_ ≠ (.slice Ao57 y140.length co57 : Value).ownBlock ∧ k_ ≠ gb113)) (by (with_reducible repeat (first | apply Kd.V_alloc | apply Kd.V_drewN | apply Kd.V_drew)); exact HL112_2.out) hg hat)
           have n3_ := Aside0.mk (blk_grown (g := gb113) (o := .cells #[.int .i64 ((rd_T26 l1 x10_1).f0), .slice A112_1 ((rd_T26 l1 x10_1).f1).length c112_1, .slice A112_2 ((rd_T26 l1 x10_1).f2).length c112_2] 26 (0, 0)) (by (with_reducible repeat (first | refine blk_drewN ?_ _ | refine blk_drew ?_ | refine blk_alloc ?_ _)); exact BK113.out) hg (Kd.R_ne HO145.out BK113.out (by decide)))
           have n4_ := Aside0.mk (Kd.R_after (ok := (fun k_ => (P0_ k_ ∨ w.heap.size ≤ k_))) (by (with_reducible repeat (first | apply Kd.R_alloc | apply Kd.R_drewN | apply Kd.R_drew)); exact HO142.out) hg hat)
           have n5_ := Aside0.mk (hb)
           have n6_ := Aside0.mk (Kept.of_grown (S := (fun k_ => P0_ k_)) hg (by repeat (first | (with_reducible first | exact HK.out | apply Kept.alloc | apply Kept.drewN | apply Kept.drew | refine Kept.setCell ?_ (.inr GW113.out) _) | exact HK.out)) (fun k_ e_ => (HO145.out.1 k_ e_).1))
           have n7_ := Aside0.mk (ho)
           clear HO_8
           clear HL112_1
           clear HL112_2
           clear BK113
           clear HO142
           clear HB
           clear HK
           clear HO145
           have HO_8 := n0_
           have HL112_1 := n1_
           have HL112_2 := n2_
           have BK113 := n3_
           have HO142 := n4_
           have HB := n5_
           have HK := n6_
           have HO148 := n7_
           clear n0_ n1_ n2_ n3_ n4_ n5_ n6_ n7_
           clear ho hb hg hat
           obtain ⟨Ao60, co60, eo60⟩ := Kd.R_slice HO148.out
           (first | subst eo60 | (injection eo60 with f1_ f2_ f3_; have f4_ := f1_.symm; have f5_ := f3_.symm; clear f1_ f2_ f3_; subst f4_; subst f5_))
           refine hK.out _ _ ⟨(blk_cell BK113.out 0).trans rfl, (blk_cell BK113.out 1).trans rfl, (blk_cell BK113.out 2).trans rfl⟩ (fun hHeld => ?_)
           clear hK K
           refine norm_ (a' := ?_) ?_ ?_
           rotate_left
           ·show Act.put _ (some 54) _ = _
            simp only [Act.put, List.setIfInBounds_toArray, List.set_cons_zero, List.set_cons_succ, i64_w, i32_w]
            rfl
           refine one_ (i := 6) (N := some 57) #[true, true, true, true, true, true, true, false] rfl rfl (one_of HT_.out (by kernel_rfl)) (by decide) (fun K hK => ?_)
           refine goes_ Try.func26 (by kernel_rfl) rfl #[.slice Ao60 y146.length co60, .slice A112_2 ((rd_T26 l1 x10_1).f2).length c112_2] (by rfl) rfl rfl (by (try simp only [List.map_toArray, List.map_cons, List.map_nil]); first | done | rfl | (simp only [List.length_drop, List.length_take]; rfl)) ?_
           with_reducible refine (ih k1 (by have := HK1.out; omega) (fun k_ => some k_ = (.slice Ao60 y146.length co60 : Value).ownBlock) (.slice Ao60 y146.length co60) y146 (fun k_ => ((((P0_ k_ ∨ P1_ k_) ∨ w.heap.size ≤ k_) ∧ (some k_ ≠ (.slice Ao57 y140.length co57 : Value).ownBlock ∧ k_ ≠ gb113)) ∧ some k_ ≠ (.slice Ao60 y146.length co60 : Value).ownBlock)) _ _ ((rd_T26 l1 x10_1).f2) t149 w0 _ ?side1 ?side2 ?side3 A46.out).mono ?_
           (case side1 => repeat (first | (with_reducible first | exact HB.out | apply below_alloc | apply pw_below_drewN | apply below_drew1 | refine below_set ?_ GE113.out) | exact HB.out))
           (case side2 => exact Kd.R_tight rfl HO148.out)
           (case side3 => exact Kd.V_mono (HL112_2.out) (fun k_ hk_ => ⟨hk_, hk_.2⟩))
           rintro e w61 ⟨v150, rfl, ho0, hb, hkp⟩
           refine ⟨_, rfl, ?_⟩
           have n0_ := Aside0.mk (Kd.V_mono (ok' := fun k_ => ((P0_ k_ ∨ P1_ k_) ∨ w.heap.size ≤ k_) ∧ some k_ ≠ (.slice Ao57 y140.length co57 : Value).ownBlock ∧ k_ ≠ gb113 ∧ some k_ ≠ (v150 : Value).ownBlock) (Kd.V_keptB (HO_8.out) hkp (fun k_ hk_ hs_ => (hk_.2) hs_)) (fun k_ hk_ => ⟨hk_.1.1.1, hk_.1.1.2.1, hk_.1.1.2.2, fun e_ => Or.elim (ho0.1 k_ e_.symm) (fun hs_ => hk_.2.1 hs_) (fun hn_ => Nat.not_le.2 hk_.2.2 hn_)⟩))
           have n1_ := Aside0.mk (blk_kept (by (with_reducible repeat (first | refine blk_drewN ?_ _ | refine blk_drew ?_ | refine blk_alloc ?_ _)); exact BK113.out) hkp (fun hs_ => (fun e_ => (Kd.R_ne HO148.out BK113.out (by decide)) e_) hs_))
           have n2_ := Aside0.mk (Kd.R_mono (ok' := fun k_ => (P0_ k_ ∨ w.heap.size ≤ k_) ∧ some k_ ≠ (v150 : Value).ownBlock) (Kd.R_keptB (HO142.out) hkp (fun k_ hk_ hs_ => (hk_.2) hs_)) (fun k_ hk_ => ⟨hk_.1.1, fun e_ => Or.elim (ho0.1 k_ e_.symm) (fun hs_ => hk_.2.1 hs_) (fun hn_ => Nat.not_le.2 hk_.2.2 hn_)⟩))
           have n3_ := Aside0.mk (Kd.R_mono (ok' := fun k_ => (P0_ k_ ∨ w.heap.size ≤ k_) ∧ some k_ ≠ (.slice Ao57 y140.length co57 : Value).ownBlock) ho0 (fun k_ hk_ => ⟨Or.elim hk_ (fun hs_ => (HO148.out.1 k_ (hs_).symm).1) (fun hn_ => (.inr (Nat.le_trans (by first | exact HK.out.1 | exact (show Kept w _ (fun k_ => P0_ k_) from by repeat (first | (with_reducible first | exact HK.out | apply Kept.alloc | apply Kept.drewN | apply Kept.drew | refine Kept.setCell ?_ (.inr GW113.out) _) | exact HK.out)).1) hn_))), Or.elim hk_ (fun hs_ => fun e_ => (((HO142.out).1 k_ e_.symm).2) hs_) (fun hn_ => (Kd.fresh' (Kd.R_lt (by (with_reducible repeat (first | apply Kd.R_alloc | apply Kd.R_drewN | apply Kd.R_drew)); exact HO142.out)) k_ hn_))⟩))
           have n4_ := Aside0.mk (Kept.then_ (S := (fun k_ => P0_ k_)) (by repeat (first | (with_reducible first | exact HK.out | apply Kept.alloc | apply Kept.drewN | apply Kept.drew | refine Kept.setCell ?_ (.inr GW113.out) _) | exact HK.out)) hkp (fun k_ hs_ => (fun e_ => (HO148.out.1 k_ e_.symm).1) hs_))
           have n5_ := Aside0.mk (hb)
           clear HO_8
           clear BK113
           clear HO142
           clear HK
           clear HB
           clear HO148
           clear HL112_1
           clear HL112_2
           have HO_8 := n0_
           have BK113 := n1_
           have HO142 := n2_
           have HO151 := n3_
           have HK := n4_
           have HB := n5_
           clear n0_ n1_ n2_ n3_ n4_ n5_
           (try clear hb)
           (try clear hkp)
           (try clear ho0)
           refine hK.out _ _ ⟨(blk_cell BK113.out 0).trans rfl, (blk_cell BK113.out 1).trans rfl, (blk_cell BK113.out 2).trans rfl⟩ (fun hHeld => ?_)
           clear hK K
           refine norm_ (a' := ?_) ?_ ?_
           rotate_left
           ·show Act.put _ (some 57) _ = _
            simp only [Act.put, List.setIfInBounds_toArray, List.set_cons_zero, List.set_cons_succ, i64_w, i32_w]
            rfl
           refine pure_ (i := 7) (N := some 0) (v := ?_) (a' := ?_) #[true, true, true, true, true, true, true, true] rfl rfl (any_of HT_.out (by kernel_rfl)) (fun _ _ _ h => h) (Or.inl ⟨by rfl, ?_⟩) ?_ ?_
           rotate_left
           ·intro w'
            go_simp
            with_reducible rfl
           rotate_left
           ·simp only [Act.put, List.setIfInBounds_toArray, List.set_cons_zero, List.set_cons_succ, i64_w, i32_w]
            rfl
           refine done_ (done_of HT_.out (by kernel_rfl)) ?_
           try go_wp2
           go_roundg k1
           case measure => have := HK1.out; omega
           case rel => exact ⟨(t149), (wrap64 (x10_1 + 1)), (by first | rfl | (simp; done) | (simp [*]; done)), H', ⟨by have := HK1.out; omega⟩, ⟨by (with_reducible repeat (first | apply Kd.R_alloc | apply Kd.R_drewN | apply Kd.R_drew)); exact Kd.R_mono HO151.out (fun _ hk => hk.1)⟩, ⟨by (with_reducible repeat (first | apply Kd.V_alloc | apply Kd.V_drewN | apply Kd.V_drew)); exact Kd.V_mono HO_8.out (fun _ hk => ⟨hk.1, hk.2.2.2⟩)⟩, ⟨by repeat (first | (with_reducible first | exact HK.out | apply Kept.alloc | apply Kept.drewN | apply Kept.drew | refine Kept.setCell ?_ (.inr GW113.out) _) | exact HK.out)⟩, ⟨by repeat (first | (with_reducible first | exact HB.out | apply below_alloc | apply pw_below_drewN | apply below_drew1 | refine below_set ?_ GE113.out) | exact HB.out)⟩⟩
          ·rw [if_neg c45] at H
           exact absurd H (by simp)
         ·rw [if_neg c44] at H
          exact absurd H (by simp)
      ·rw [if_neg c7] at H
       exact absurd H (by simp)
     ·rw [if_neg c5] at H
      exact absurd H (by simp)
    ·rw [if_neg c4] at H
     exact absurd H (by simp)
   ·rw [if_neg c3] at H
    have c3b0 : decide (x10_1 < (l1.length : Int)) = false := decide_eq_false c3
    clear c3
    obtain rfl := Option.some.inj H
    go_wp2
    go_ret
    exact ⟨_, by first | rfl | (simp [errW_none, errW_some] <;> rfl) | (simp [*, errW_none, errW_some] <;> rfl), by (with_reducible repeat (first | apply Kd.R_alloc | apply Kd.R_drewN | apply Kd.R_drew)); exact HO_0.out, by repeat (first | (with_reducible first | exact HB.out | apply below_alloc | apply pw_below_drewN | apply below_drew1) | exact HB.out), by repeat (first | (with_reducible first | exact HK.out | apply Kept.alloc | apply Kept.drewN | apply Kept.drew) | exact HK.out)⟩

end Go.Proofs.Ytafbnfpabcaebaa.XT
