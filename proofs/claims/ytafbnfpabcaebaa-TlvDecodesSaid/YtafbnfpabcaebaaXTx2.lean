/- Written by xprint.py, a program of this session over the kit's print: what functions of the program come to, walked. -/
import Derived.Test.YtafbnfpabcaebaaXTx0
import Derived.Test.YtafbnfpabcaebaaXTx1
namespace Go.Proofs.Ytafbnfpabcaebaa.XT
open Go.RowKit Go.Proofs.YtafbnfpabcaebaaW.PrintWords Go.Proofs.YtafbnfpabcaebaaW.PrintLast Go.Proofs.YtafbnfpabcaebaaW.PrintMore
attribute [local go_sem] max2_int min2_int max_two min_two max_three min_three max_four min_four   -- for this text's walks alone
set_option linter.unusedVariables false
set_option linter.unusedSimpArgs false

/-! ### tlv_check: function 24 -/
mutual
def tlv_check.l0 : Nat → Int → List (S26) → Int → Int → Option (Int)
 | 0, _, _, _, _ => none
 | k + 1, x1, x8, x9, x10 => if x10 < x9 then (if 0 ≤ x10 then (if x10 < (x8.length : Int) then ((tlv_tag.f ((rd_T26 x8 x10).f0)).bind fun t103 => (if t103 = true then (if x1 > 6 then (some 17) else ((tlv_Nested.f ((rd_T26 x8 x10).f0)).bind fun t104 => (if t104 = true then (if (((rd_T26 x8 x10).f1).length : Int) > 0 then (tlv_check.j1 k x1 x8 x9 x10 true ((rd_T26 x8 x10).f0) ((rd_T26 x8 x10).f1) ((rd_T26 x8 x10).f2)) else ((tlv_Nested.f ((rd_T26 x8 x10).f0)).bind fun t105 => (if t105 = true then (tlv_check.j1 k x1 x8 x9 x10 false ((rd_T26 x8 x10).f0) ((rd_T26 x8 x10).f1) ((rd_T26 x8 x10).f2)) else (tlv_check.j1 k x1 x8 x9 x10 (decide ((((rd_T26 x8 x10).f2).length : Int) > 0)) ((rd_T26 x8 x10).f0) ((rd_T26 x8 x10).f1) ((rd_T26 x8 x10).f2))))) else ((tlv_Nested.f ((rd_T26 x8 x10).f0)).bind fun t106 => (if t106 = true then (tlv_check.j1 k x1 x8 x9 x10 false ((rd_T26 x8 x10).f0) ((rd_T26 x8 x10).f1) ((rd_T26 x8 x10).f2)) else (tlv_check.j1 k x1 x8 x9 x10 (decide ((((rd_T26 x8 x10).f2).length : Int) > 0)) ((rd_T26 x8 x10).f0) ((rd_T26 x8 x10).f1) ((rd_T26 x8 x10).f2))))))) else (some 15))) else (none)) else (none)) else (some 0)
def tlv_check.j1 : Nat → Int → List (S26) → Int → Int → Bool → Int → List Int → List (S26) → Option (Int)
 | 0, _, _, _, _, _, _, _, _ => none
 | k + 1, x1, x8, x9, x10, x22, x103000, x103001, x103002 => if x22 = true then (some 12) else ((tlv_check.f k x103002 (wrap64 (x1 + 1))).bind fun t107 => (if t107 = 0 then (tlv_check.l0 k x1 x8 x9 (wrap64 (x10 + 1))) else (some t107)))
def tlv_check.f : Nat → List (S26) → Int → Option (Int)
 | 0, _, _ => none
 | k + 1, l0, a1 => tlv_check.l0 k a1 l0 (l0.length : Int) 0
end
theorem tlv_check.mono_l : ∀ k, (∀ y0 y1, LeO (tlv_check.f k y0 y1) (tlv_check.f (k + 1) y0 y1)) ∧ (∀ y0 y1 y2 y3, LeO (tlv_check.l0 k y0 y1 y2 y3) (tlv_check.l0 (k + 1) y0 y1 y2 y3)) ∧ (∀ y0 y1 y2 y3 y4 y5 y6 y7, LeO (tlv_check.j1 k y0 y1 y2 y3 y4 y5 y6 y7) (tlv_check.j1 (k + 1) y0 y1 y2 y3 y4 y5 y6 y7))
 | 0 => ⟨fun _ _ r h => by simp [tlv_check.f] at h, fun _ _ _ _ r h => by simp [tlv_check.l0] at h, fun _ _ _ _ _ _ _ _ r h => by simp [tlv_check.j1] at h⟩
 | k + 1 => by
  obtain ⟨ih0, ih1, ih2⟩ := tlv_check.mono_l k
  refine ⟨?_, ?_, ?_⟩
  ·intro y0 y1
   unfold tlv_check.f
   repeat' first
   | (with_reducible exact ih0 _ _)
   | (with_reducible exact ih1 _ _ _ _)
   | (with_reducible exact ih2 _ _ _ _ _ _ _ _)
   | (with_reducible exact LeO.refl _)
   | (with_reducible exact LeO.none _)
   | (with_reducible refine LeO.ite ?_ ?_)
   | (with_reducible refine LeO.bind ?_ (fun _ => ?_))
   | exact ih0 _ _
   | exact ih1 _ _ _ _
   | exact ih2 _ _ _ _ _ _ _ _
   | exact LeO.none _
   | refine LeO.ite ?_ ?_
   | refine LeO.bind ?_ (fun _ => ?_)
  ·intro y0 y1 y2 y3
   unfold tlv_check.l0
   repeat' first
   | (with_reducible exact ih0 _ _)
   | (with_reducible exact ih1 _ _ _ _)
   | (with_reducible exact ih2 _ _ _ _ _ _ _ _)
   | (with_reducible exact LeO.refl _)
   | (with_reducible exact LeO.none _)
   | (with_reducible refine LeO.ite ?_ ?_)
   | (with_reducible refine LeO.bind ?_ (fun _ => ?_))
   | exact ih0 _ _
   | exact ih1 _ _ _ _
   | exact ih2 _ _ _ _ _ _ _ _
   | exact LeO.none _
   | refine LeO.ite ?_ ?_
   | refine LeO.bind ?_ (fun _ => ?_)
  ·intro y0 y1 y2 y3 y4 y5 y6 y7
   unfold tlv_check.j1
   repeat' first
   | (with_reducible exact ih0 _ _)
   | (with_reducible exact ih1 _ _ _ _)
   | (with_reducible exact ih2 _ _ _ _ _ _ _ _)
   | (with_reducible exact LeO.refl _)
   | (with_reducible exact LeO.none _)
   | (with_reducible refine LeO.ite ?_ ?_)
   | (with_reducible refine LeO.bind ?_ (fun _ => ?_))
   | exact ih0 _ _
   | exact ih1 _ _ _ _
   | exact ih2 _ _ _ _ _ _ _ _
   | exact LeO.none _
   | refine LeO.ite ?_ ?_
   | refine LeO.bind ?_ (fun _ => ?_)
theorem tlv_check.mono : ∀ a0 a1 k, LeO (tlv_check.f k a0 a1) (tlv_check.f (k + 1) a0 a1) := by
 intro a0 a1 k
 obtain ⟨ih0, ih1, ih2⟩ := tlv_check.mono_l k
 exact ih0 a0 a1
set_option maxHeartbeats 8000000 in
set_option maxRecDepth 100000 in
theorem tlv_check.calls (k : Nat) : ∀ (A0 : Option Addr) (c0 : Nat) (l0 : List (S26)) (a1 : Int) (r : Int) (w : World) (hr0 : Kd.C k26 w A0 l0.length l0) (hc0 : l0.length ≤ c0) (h : tlv_check.f k l0 a1 = some r),
  Calls Try.prog 24 #[.slice A0 l0.length c0, .int .i64 a1] w fun e w' => e = .returned (.int .i64 r) ∧ Below w.heap.size w w' := by
 induction k using Nat.strongRecOn with
 | _ k ih =>
 intro A0 c0 l0 a1 r w hr0 hc0 h
 cases k with
 | zero => exact absurd h (by simp [tlv_check.f])
 | succ k =>
 simp only [tlv_check.f] at h
 have hu26 := Try.underlying26
 have HR0 := Aside0.mk hr0
 have HC0 := Aside0.mk hc0
 clear hr0 hc0
 have HB := Aside0.mk (Below.refl w.heap.size w)
 have H : (tlv_check.l0 k a1 l0 (l0.length : Int) 0) = some r := h
 clear h
 have H' := Aside0.mk H
 clear H
 go_enter Try.func24, Try.ntmps24
 go_wp2
 go_loopg [10] k (fun kq v10 w' => ∃ (x10_1 : Int), v10 = .int .i64 x10_1 ∧ Aside0 (tlv_check.l0 kq a1 l0 (l0.length : Int) x10_1 = some r) ∧ Aside0 (kq ≤ k) ∧ Aside0 (Below w.heap.size w w'))
 case atStart => exact ⟨(0), (by first | rfl | (simp; done) | (simp [*]; done)), H', ⟨Nat.le_refl _⟩, ⟨by repeat (first | (with_reducible first | exact HB.out | apply below_alloc | apply pw_below_drewN | apply below_drew1) | exact HB.out)⟩⟩
 case round =>
  clear H'
  try clear c2
  try clear p2
  obtain ⟨x10_1, rfl, HA, HK1, HB⟩ := hrel
  cases gk with
  | zero => exact absurd HA.out (by simp [tlv_check.l0])
  | succ k1 =>
   have H := HA.out
   clear HA
   simp only [tlv_check.l0] at H
   by_cases c3 : x10_1 < (l0.length : Int)
   ·rw [if_pos c3] at H
    have c3b0 : decide (x10_1 < (l0.length : Int)) = true := decide_eq_true c3
    clear c3
    by_cases c4 : 0 ≤ x10_1
    ·rw [if_pos c4] at H
     have c4b0 : decide (0 ≤ x10_1) = true := decide_eq_true c4
     clear c4
     by_cases c5 : x10_1 < (l0.length : Int)
     ·rw [if_pos c5] at H
      have c5b0 : decide (x10_1 < (l0.length : Int)) = true := decide_eq_true c5
      clear c5
      replace H := Option.bind_eq_some_iff.mp H
      obtain ⟨t103, A60, H⟩ := H
      replace H : (if t103 = true then (if a1 > 6 then (some 17) else ((tlv_Nested.f ((rd_T26 l0 x10_1).f0)).bind fun t104 => (if t104 = true then (if (((rd_T26 l0 x10_1).f1).length : Int) > 0 then (tlv_check.j1 k1 a1 l0 (l0.length : Int) x10_1 true ((rd_T26 l0 x10_1).f0) ((rd_T26 l0 x10_1).f1) ((rd_T26 l0 x10_1).f2)) else ((tlv_Nested.f ((rd_T26 l0 x10_1).f0)).bind fun t105 => (if t105 = true then (tlv_check.j1 k1 a1 l0 (l0.length : Int) x10_1 false ((rd_T26 l0 x10_1).f0) ((rd_T26 l0 x10_1).f1) ((rd_T26 l0 x10_1).f2)) else (tlv_check.j1 k1 a1 l0 (l0.length : Int) x10_1 (decide ((((rd_T26 l0 x10_1).f2).length : Int) > 0)) ((rd_T26 l0 x10_1).f0) ((rd_T26 l0 x10_1).f1) ((rd_T26 l0 x10_1).f2))))) else ((tlv_Nested.f ((rd_T26 l0 x10_1).f0)).bind fun t106 => (if t106 = true then (tlv_check.j1 k1 a1 l0 (l0.length : Int) x10_1 false ((rd_T26 l0 x10_1).f0) ((rd_T26 l0 x10_1).f1) ((rd_T26 l0 x10_1).f2)) else (tlv_check.j1 k1 a1 l0 (l0.length : Int) x10_1 (decide ((((rd_T26 l0 x10_1).f2).length : Int) > 0)) ((rd_T26 l0 x10_1).f0) ((rd_T26 l0 x10_1).f1) ((rd_T26 l0 x10_1).f2))))))) else (some 15)) = some r := H
      have A6 := Aside0.mk A60
      clear A60
      by_cases c7 : t103 = true
      ·subst c7
       have H1 : (if a1 > 6 then (some 17) else ((tlv_Nested.f ((rd_T26 l0 x10_1).f0)).bind fun t104 => (if t104 = true then (if (((rd_T26 l0 x10_1).f1).length : Int) > 0 then (tlv_check.j1 k1 a1 l0 (l0.length : Int) x10_1 true ((rd_T26 l0 x10_1).f0) ((rd_T26 l0 x10_1).f1) ((rd_T26 l0 x10_1).f2)) else ((tlv_Nested.f ((rd_T26 l0 x10_1).f0)).bind fun t105 => (if t105 = true then (tlv_check.j1 k1 a1 l0 (l0.length : Int) x10_1 false ((rd_T26 l0 x10_1).f0) ((rd_T26 l0 x10_1).f1) ((rd_T26 l0 x10_1).f2)) else (tlv_check.j1 k1 a1 l0 (l0.length : Int) x10_1 (decide ((((rd_T26 l0 x10_1).f2).length : Int) > 0)) ((rd_T26 l0 x10_1).f0) ((rd_T26 l0 x10_1).f1) ((rd_T26 l0 x10_1).f2))))) else ((tlv_Nested.f ((rd_T26 l0 x10_1).f0)).bind fun t106 => (if t106 = true then (tlv_check.j1 k1 a1 l0 (l0.length : Int) x10_1 false ((rd_T26 l0 x10_1).f0) ((rd_T26 l0 x10_1).f1) ((rd_T26 l0 x10_1).f2)) else (tlv_check.j1 k1 a1 l0 (l0.length : Int) x10_1 (decide ((((rd_T26 l0 x10_1).f2).length : Int) > 0)) ((rd_T26 l0 x10_1).f0) ((rd_T26 l0 x10_1).f1) ((rd_T26 l0 x10_1).f2))))))) = some r := by rw [if_pos rfl] at H; exact H
       clear H
       have H := H1
       clear H1
       by_cases c8 : a1 > 6
       ·rw [if_pos c8] at H
        have c8b0 : decide (6 < a1) = true := decide_eq_true c8
        clear c8
        obtain rfl := Option.some.inj H
        have p101 : 0 ≤ (x10_1 : Int) := of_decide_eq_true (by first | (with_reducible assumption) | assumption)
        have q101 : x10_1 < (l0.length : Int) := of_decide_eq_true (by first | (with_reducible assumption) | assumption)
        obtain ⟨ad101, A101_1, c101_1, A101_2, c101_2, e101, hx101_0, hx101_1, hx101_2, hl101_1, hi101_1, hl101_2, hi101_2⟩ := at_T26 HR0.out x10_1 p101 q101
        cases e101
        replace hx101_0 := (HB.out.cell (World.block_lt_of_cell? w _ hx101_0)).trans hx101_0
        replace hx101_1 := (HB.out.cell (World.block_lt_of_cell? w _ hx101_1)).trans hx101_1
        replace hx101_2 := (HB.out.cell (World.block_lt_of_cell? w _ hx101_2)).trans hx101_2
        have HR101_1 := Aside0.mk hi101_1
        have HC101_1 := Aside0.mk hl101_1
        clear hi101_1 hl101_1
        have HR101_2 := Aside0.mk hi101_2
        have HC101_2 := Aside0.mk hl101_2
        clear hi101_2 hl101_2
        replace p101 := eq_true p101
        replace q101 := eq_true q101
        go_wp2_with (first | ((with_reducible refine gate_dst (N := 6) rfl ?_); (try (refine gate_guard (by rfl) ?_; dsimp only)); refine box_event ?hg (N := 6) ?hd (cs := #[.int .i64 0, .slice none 0 0, .slice none 0 0]) (t := 26) ?hr ?_; (case hd => rfl); (case hg => rfl); (case hr => first | (go_simp; done) | (go_simp; rfl)); intro gb102 hg w9 hbox hb; have n0_ := Aside0.mk (below_step (by repeat (first | (with_reducible first | exact HB.out | apply below_alloc | apply pw_below_drewN | apply below_drew1) | exact HB.out)) hb); have n1_ := Aside0.mk (hbox); have n2_ := Aside0.mk ((by rw [hg]; exact (below_size (by repeat (first | (with_reducible first | exact HB.out | apply below_alloc | apply pw_below_drewN | apply below_drew1) | exact HB.out))) : w.heap.size ≤ gb102)); have n3_ := Aside0.mk ((by rw [hg]; exact (below_size (by repeat (first | (with_reducible first | exact HB.out | apply below_alloc | apply pw_below_drewN | apply below_drew1) | exact HB.out))) : w.heap.size ≤ gb102)); clear HB; have HB := n0_; have BK102 := n1_; have GW102 := n2_; have GE102 := n3_; clear n0_ n1_ n2_ n3_; clear hb hbox hg; have hcz10_0 : w9.cell? ⟨gb102, 0, none⟩ = some (.int .i64 0) := (blk_cell BK102.out 0).trans rfl; have hcz10_1 : w9.cell? ⟨gb102, 1, none⟩ = some (.slice none 0 0) := (blk_cell BK102.out 1).trans rfl; have hcz10_2 : w9.cell? ⟨gb102, 2, none⟩ = some (.slice none 0 0) := (blk_cell BK102.out 2).trans rfl; have hfz10_0 := blk_frozen BK102.out 0; have hfz10_1 := blk_frozen BK102.out 1; have hfz10_2 := blk_frozen BK102.out 2) | ((with_reducible refine gate_callee (f := 37) rfl ?_); refine goesL_ (some 17) rfl rfl Try.func37 (by kernel_rfl) rfl #[.int .i64 ((rd_T26 l0 x10_1).f0)] rfl (by (try simp only [List.map_toArray, List.map_cons, List.map_nil]); first | done | rfl | (simp only [List.length_drop, List.length_take]; rfl)) ?_; (with_reducible refine (tlv_tag.calls ((rd_T26 l0 x10_1).f0) true _ A6.out).mono ?_); rintro e w' ⟨rfl, ⟨nd, rfl⟩⟩; refine ⟨_, rfl, ?_⟩))
        go_ret
        exact ⟨by first | rfl | (simp [errW_none, errW_some] <;> rfl) | (simp [*, errW_none, errW_some] <;> rfl), by repeat (first | (with_reducible first | exact HB.out | apply below_alloc | apply pw_below_drewN | apply below_drew1 | refine below_set ?_ GE102.out) | exact HB.out)⟩
       ·rw [if_neg c8] at H
        have c8b0 : decide (6 < a1) = false := decide_eq_false c8
        clear c8
        have HC11 := Aside0.mk H
        clear H
        have p101 : 0 ≤ (x10_1 : Int) := of_decide_eq_true (by first | (with_reducible assumption) | assumption)
        have q101 : x10_1 < (l0.length : Int) := of_decide_eq_true (by first | (with_reducible assumption) | assumption)
        obtain ⟨ad101, A101_1, c101_1, A101_2, c101_2, e101, hx101_0, hx101_1, hx101_2, hl101_1, hi101_1, hl101_2, hi101_2⟩ := at_T26 HR0.out x10_1 p101 q101
        cases e101
        replace hx101_0 := (HB.out.cell (World.block_lt_of_cell? w _ hx101_0)).trans hx101_0
        replace hx101_1 := (HB.out.cell (World.block_lt_of_cell? w _ hx101_1)).trans hx101_1
        replace hx101_2 := (HB.out.cell (World.block_lt_of_cell? w _ hx101_2)).trans hx101_2
        have HR101_1 := Aside0.mk hi101_1
        have HC101_1 := Aside0.mk hl101_1
        clear hi101_1 hl101_1
        have HR101_2 := Aside0.mk hi101_2
        have HC101_2 := Aside0.mk hl101_2
        clear hi101_2 hl101_2
        replace p101 := eq_true p101
        replace q101 := eq_true q101
        go_upto_region 8 with (first | ((with_reducible refine gate_dst (N := 6) rfl ?_); (try (refine gate_guard (by rfl) ?_; dsimp only)); refine box_event ?hg (N := 6) ?hd (cs := #[.int .i64 0, .slice none 0 0, .slice none 0 0]) (t := 26) ?hr ?_; (case hd => rfl); (case hg => rfl); (case hr => first | (go_simp; done) | (go_simp; rfl)); intro gb102 hg w12 hbox hb; have n0_ := Aside0.mk (below_step (by repeat (first | (with_reducible first | exact HB.out | apply below_alloc | apply pw_below_drewN | apply below_drew1) | exact HB.out)) hb); have n1_ := Aside0.mk (hbox); have n2_ := Aside0.mk ((by rw [hg]; exact (below_size (by repeat (first | (with_reducible first | exact HB.out | apply below_alloc | apply pw_below_drewN | apply below_drew1) | exact HB.out))) : w.heap.size ≤ gb102)); have n3_ := Aside0.mk ((by rw [hg]; exact (below_size (by repeat (first | (with_reducible first | exact HB.out | apply below_alloc | apply pw_below_drewN | apply below_drew1) | exact HB.out))) : w.heap.size ≤ gb102)); clear HB; have HB := n0_; have BK102 := n1_; have GW102 := n2_; have GE102 := n3_; clear n0_ n1_ n2_ n3_; clear hb hbox hg; have hcz13_0 : w12.cell? ⟨gb102, 0, none⟩ = some (.int .i64 0) := (blk_cell BK102.out 0).trans rfl; have hcz13_1 : w12.cell? ⟨gb102, 1, none⟩ = some (.slice none 0 0) := (blk_cell BK102.out 1).trans rfl; have hcz13_2 : w12.cell? ⟨gb102, 2, none⟩ = some (.slice none 0 0) := (blk_cell BK102.out 2).trans rfl; have hfz13_0 := blk_frozen BK102.out 0; have hfz13_1 := blk_frozen BK102.out 1; have hfz13_2 := blk_frozen BK102.out 2) | ((with_reducible refine gate_callee (f := 37) rfl ?_); refine goesL_ (some 17) rfl rfl Try.func37 (by kernel_rfl) rfl #[.int .i64 ((rd_T26 l0 x10_1).f0)] rfl (by (try simp only [List.map_toArray, List.map_cons, List.map_nil]); first | done | rfl | (simp only [List.length_drop, List.length_take]; rfl)) ?_; (with_reducible refine (tlv_tag.calls ((rd_T26 l0 x10_1).f0) true _ A6.out).mono ?_); rintro e w' ⟨rfl, ⟨nd, rfl⟩⟩; refine ⟨_, rfl, ?_⟩))
        (try simp only [Act.put, List.setIfInBounds_toArray, List.set_cons_zero, List.set_cons_succ])
        go_cut [22] (fun v22 wc => ∃ (kq : Nat) (x22_10 : Bool), v22 = .bool x22_10 ∧ Aside0 (tlv_check.j1 kq a1 l0 (l0.length : Int) x10_1 x22_10 ((rd_T26 l0 x10_1).f0) ((rd_T26 l0 x10_1).f1) ((rd_T26 l0 x10_1).f2) = some r) ∧ Aside0 (kq ≤ k1) ∧ Aside0 (wc.heap[gb102]? = some (.cells #[.int .i64 ((rd_T26 l0 x10_1).f0), (.slice A101_1 ((rd_T26 l0 x10_1).f1).length c101_1), (.slice A101_2 ((rd_T26 l0 x10_1).f2).length c101_2)] 26 (0, 0))) ∧ Aside0 (Below w.heap.size w wc))
        case first =>
         have H := HC11.out
         clear HC11
         replace H := Option.bind_eq_some_iff.mp H
         obtain ⟨t104, A140, H⟩ := H
         replace H : (if t104 = true then (if (((rd_T26 l0 x10_1).f1).length : Int) > 0 then (tlv_check.j1 k1 a1 l0 (l0.length : Int) x10_1 true ((rd_T26 l0 x10_1).f0) ((rd_T26 l0 x10_1).f1) ((rd_T26 l0 x10_1).f2)) else ((tlv_Nested.f ((rd_T26 l0 x10_1).f0)).bind fun t105 => (if t105 = true then (tlv_check.j1 k1 a1 l0 (l0.length : Int) x10_1 false ((rd_T26 l0 x10_1).f0) ((rd_T26 l0 x10_1).f1) ((rd_T26 l0 x10_1).f2)) else (tlv_check.j1 k1 a1 l0 (l0.length : Int) x10_1 (decide ((((rd_T26 l0 x10_1).f2).length : Int) > 0)) ((rd_T26 l0 x10_1).f0) ((rd_T26 l0 x10_1).f1) ((rd_T26 l0 x10_1).f2))))) else ((tlv_Nested.f ((rd_T26 l0 x10_1).f0)).bind fun t106 => (if t106 = true then (tlv_check.j1 k1 a1 l0 (l0.length : Int) x10_1 false ((rd_T26 l0 x10_1).f0) ((rd_T26 l0 x10_1).f1) ((rd_T26 l0 x10_1).f2)) else (tlv_check.j1 k1 a1 l0 (l0.length : Int) x10_1 (decide ((((rd_T26 l0 x10_1).f2).length : Int) > 0)) ((rd_T26 l0 x10_1).f0) ((rd_T26 l0 x10_1).f1) ((rd_T26 l0 x10_1).f2))))) = some r := H
         have A14 := Aside0.mk A140
         clear A140
         by_cases c15 : t104 = true
         ·subst c15
          have H1 : (if (((rd_T26 l0 x10_1).f1).length : Int) > 0 then (tlv_check.j1 k1 a1 l0 (l0.length : Int) x10_1 true ((rd_T26 l0 x10_1).f0) ((rd_T26 l0 x10_1).f1) ((rd_T26 l0 x10_1).f2)) else ((tlv_Nested.f ((rd_T26 l0 x10_1).f0)).bind fun t105 => (if t105 = true then (tlv_check.j1 k1 a1 l0 (l0.length : Int) x10_1 false ((rd_T26 l0 x10_1).f0) ((rd_T26 l0 x10_1).f1) ((rd_T26 l0 x10_1).f2)) else (tlv_check.j1 k1 a1 l0 (l0.length : Int) x10_1 (decide ((((rd_T26 l0 x10_1).f2).length : Int) > 0)) ((rd_T26 l0 x10_1).f0) ((rd_T26 l0 x10_1).f1) ((rd_T26 l0 x10_1).f2))))) = some r := by rw [if_pos rfl] at H; exact H
          clear H
          have H := H1
          clear H1
          by_cases c16 : (((rd_T26 l0 x10_1).f1).length : Int) > 0
          ·rw [if_pos c16] at H
           have c16b0 : decide (0 < (((rd_T26 l0 x10_1).f1).length : Int)) = true := decide_eq_true c16
           have c16b1 : decide (0 < ((rd_T26 l0 x10_1).f1).length) = true := decide_eq_true (by omega)
           clear c16
           (first | rw [c16b0] | (simp only [i64_w, i32_w]; rw [c16b0]) | skip)
           have H' := Aside0.mk H
           clear H
           have hcz17_0 : w12.cell? ⟨gb102, 0, none⟩ = some (.int .i64 0) := (blk_cell BK102.out 0).trans rfl
           have hcz17_1 : w12.cell? ⟨gb102, 1, none⟩ = some (.slice none 0 0) := (blk_cell BK102.out 1).trans rfl
           have hcz17_2 : w12.cell? ⟨gb102, 2, none⟩ = some (.slice none 0 0) := (blk_cell BK102.out 2).trans rfl
           have hfz17_0 := blk_frozen BK102.out 0
           have hfz17_1 := blk_frozen BK102.out 1
           have hfz17_2 := blk_frozen BK102.out 2
           go_wp2_with (first | ((with_reducible refine gate_callee (f := 13) rfl ?_); refine goesL_ (some 25) rfl rfl Try.func13 (by kernel_rfl) rfl #[.int .i64 ((rd_T26 l0 x10_1).f0)] rfl (by (try simp only [List.map_toArray, List.map_cons, List.map_nil]); first | done | rfl | (simp only [List.length_drop, List.length_take]; rfl)) ?_; (with_reducible refine (tlv_Nested.calls ((rd_T26 l0 x10_1).f0) true _ A14.out).mono ?_); rintro e w' ⟨rfl, ⟨nd, rfl⟩⟩; refine ⟨_, rfl, ?_⟩))
           go_meet
           case rel => exact ⟨_, (true), (by first | rfl | (simp; done) | (simp [*]; done)), H', ⟨by have := HK1.out; first | omega | exact Nat.le_refl _⟩, ⟨by (with_reducible repeat (first | refine blk_drewN ?_ _ | refine blk_drew ?_ | refine blk_alloc ?_ _)); refine blk_put (cs := #[.int .i64 ((rd_T26 l0 x10_1).f0), .slice A101_1 ((rd_T26 l0 x10_1).f1).length c101_1, .slice none 0 0]) ?_ 2 _ rfl; (with_reducible repeat (first | refine blk_drewN ?_ _ | refine blk_drew ?_ | refine blk_alloc ?_ _)); refine blk_put (cs := #[.int .i64 ((rd_T26 l0 x10_1).f0), .slice none 0 0, .slice none 0 0]) ?_ 1 _ rfl; (with_reducible repeat (first | refine blk_drewN ?_ _ | refine blk_drew ?_ | refine blk_alloc ?_ _)); refine blk_put (cs := #[.int .i64 0, .slice none 0 0, .slice none 0 0]) ?_ 0 _ rfl; (with_reducible repeat (first | refine blk_drewN ?_ _ | refine blk_drew ?_ | refine blk_alloc ?_ _)); exact BK102.out⟩, ⟨by repeat (first | (with_reducible first | exact HB.out | apply below_alloc | apply pw_below_drewN | apply below_drew1 | refine below_set ?_ GE102.out) | exact HB.out)⟩⟩
          ·rw [if_neg c16] at H
           have c16b0 : decide (0 < (((rd_T26 l0 x10_1).f1).length : Int)) = false := decide_eq_false c16
           have c16b1 : decide (0 < ((rd_T26 l0 x10_1).f1).length) = false := decide_eq_false (by omega)
           clear c16
           (first | rw [c16b0] | (simp only [i64_w, i32_w]; rw [c16b0]) | skip)
           replace H := Option.bind_eq_some_iff.mp H
           obtain ⟨t105, A180, H⟩ := H
           replace H : (if t105 = true then (tlv_check.j1 k1 a1 l0 (l0.length : Int) x10_1 false ((rd_T26 l0 x10_1).f0) ((rd_T26 l0 x10_1).f1) ((rd_T26 l0 x10_1).f2)) else (tlv_check.j1 k1 a1 l0 (l0.length : Int) x10_1 (decide ((((rd_T26 l0 x10_1).f2).length : Int) > 0)) ((rd_T26 l0 x10_1).f0) ((rd_T26 l0 x10_1).f1) ((rd_T26 l0 x10_1).f2))) = some r := H
           have A18 := Aside0.mk A180
           clear A180
           by_cases c19 : t105 = true
           ·subst c19
            have H1 : (tlv_check.j1 k1 a1 l0 (l0.length : Int) x10_1 false ((rd_T26 l0 x10_1).f0) ((rd_T26 l0 x10_1).f1) ((rd_T26 l0 x10_1).f2)) = some r := by rw [if_pos rfl] at H; exact H
            clear H
            have H := H1
            clear H1
            have H' := Aside0.mk H
            clear H
            have hcz20_0 : w12.cell? ⟨gb102, 0, none⟩ = some (.int .i64 0) := (blk_cell BK102.out 0).trans rfl
            have hcz20_1 : w12.cell? ⟨gb102, 1, none⟩ = some (.slice none 0 0) := (blk_cell BK102.out 1).trans rfl
            have hcz20_2 : w12.cell? ⟨gb102, 2, none⟩ = some (.slice none 0 0) := (blk_cell BK102.out 2).trans rfl
            have hfz20_0 := blk_frozen BK102.out 0
            have hfz20_1 := blk_frozen BK102.out 1
            have hfz20_2 := blk_frozen BK102.out 2
            go_wp2_with (first | ((with_reducible refine gate_callee (f := 13) rfl ?_); refine goesL_ (some 25) rfl rfl Try.func13 (by kernel_rfl) rfl #[.int .i64 ((rd_T26 l0 x10_1).f0)] rfl (by (try simp only [List.map_toArray, List.map_cons, List.map_nil]); first | done | rfl | (simp only [List.length_drop, List.length_take]; rfl)) ?_; (with_reducible refine (tlv_Nested.calls ((rd_T26 l0 x10_1).f0) true _ A14.out).mono ?_); rintro e w' ⟨rfl, ⟨nd, rfl⟩⟩; refine ⟨_, rfl, ?_⟩) | (go_at_call 13; (with_reducible refine (tlv_Nested.calls ((rd_T26 l0 x10_1).f0) true _ A18.out).mono ?_); rintro e w' ⟨rfl, ⟨nd, rfl⟩⟩))
            go_meet
            case rel => exact ⟨_, (false), (by first | rfl | (simp; done) | (simp [*]; done)), H', ⟨by have := HK1.out; first | omega | exact Nat.le_refl _⟩, ⟨by (with_reducible repeat (first | refine blk_drewN ?_ _ | refine blk_drew ?_ | refine blk_alloc ?_ _)); refine blk_put (cs := #[.int .i64 ((rd_T26 l0 x10_1).f0), .slice A101_1 ((rd_T26 l0 x10_1).f1).length c101_1, .slice none 0 0]) ?_ 2 _ rfl; (with_reducible repeat (first | refine blk_drewN ?_ _ | refine blk_drew ?_ | refine blk_alloc ?_ _)); refine blk_put (cs := #[.int .i64 ((rd_T26 l0 x10_1).f0), .slice none 0 0, .slice none 0 0]) ?_ 1 _ rfl; (with_reducible repeat (first | refine blk_drewN ?_ _ | refine blk_drew ?_ | refine blk_alloc ?_ _)); refine blk_put (cs := #[.int .i64 0, .slice none 0 0, .slice none 0 0]) ?_ 0 _ rfl; (with_reducible repeat (first | refine blk_drewN ?_ _ | refine blk_drew ?_ | refine blk_alloc ?_ _)); exact BK102.out⟩, ⟨by repeat (first | (with_reducible first | exact HB.out | apply below_alloc | apply pw_below_drewN | apply below_drew1 | refine below_set ?_ GE102.out) | exact HB.out)⟩⟩
           ·replace c19 := Bool.eq_false_iff.mpr c19
            subst c19
            have H1 : (tlv_check.j1 k1 a1 l0 (l0.length : Int) x10_1 (decide ((((rd_T26 l0 x10_1).f2).length : Int) > 0)) ((rd_T26 l0 x10_1).f0) ((rd_T26 l0 x10_1).f1) ((rd_T26 l0 x10_1).f2)) = some r := by rw [if_neg (show ¬ (false = true) by decide)] at H; exact H
            clear H
            have H := H1
            clear H1
            have H' := Aside0.mk H
            clear H
            have hcz21_0 : w12.cell? ⟨gb102, 0, none⟩ = some (.int .i64 0) := (blk_cell BK102.out 0).trans rfl
            have hcz21_1 : w12.cell? ⟨gb102, 1, none⟩ = some (.slice none 0 0) := (blk_cell BK102.out 1).trans rfl
            have hcz21_2 : w12.cell? ⟨gb102, 2, none⟩ = some (.slice none 0 0) := (blk_cell BK102.out 2).trans rfl
            have hfz21_0 := blk_frozen BK102.out 0
            have hfz21_1 := blk_frozen BK102.out 1
            have hfz21_2 := blk_frozen BK102.out 2
            go_wp2_with (first | ((with_reducible refine gate_callee (f := 13) rfl ?_); refine goesL_ (some 25) rfl rfl Try.func13 (by kernel_rfl) rfl #[.int .i64 ((rd_T26 l0 x10_1).f0)] rfl (by (try simp only [List.map_toArray, List.map_cons, List.map_nil]); first | done | rfl | (simp only [List.length_drop, List.length_take]; rfl)) ?_; (with_reducible refine (tlv_Nested.calls ((rd_T26 l0 x10_1).f0) true _ A14.out).mono ?_); rintro e w' ⟨rfl, ⟨nd, rfl⟩⟩; refine ⟨_, rfl, ?_⟩) | (go_at_call 13; (with_reducible refine (tlv_Nested.calls ((rd_T26 l0 x10_1).f0) false _ A18.out).mono ?_); rintro e w' ⟨rfl, ⟨nd, rfl⟩⟩))
            go_meet
            case rel => exact ⟨_, (decide ((((rd_T26 l0 x10_1).f2).length : Int) > 0)), (by first | rfl | (simp; done) | (simp [*]; done)), H', ⟨by have := HK1.out; first | omega | exact Nat.le_refl _⟩, ⟨by (with_reducible repeat (first | refine blk_drewN ?_ _ | refine blk_drew ?_ | refine blk_alloc ?_ _)); refine blk_put (cs := #[.int .i64 ((rd_T26 l0 x10_1).f0), .slice A101_1 ((rd_T26 l0 x10_1).f1).length c101_1, .slice none 0 0]) ?_ 2 _ rfl; (with_reducible repeat (first | refine blk_drewN ?_ _ | refine blk_drew ?_ | refine blk_alloc ?_ _)); refine blk_put (cs := #[.int .i64 ((rd_T26 l0 x10_1).f0), .slice none 0 0, .slice none 0 0]) ?_ 1 _ rfl; (with_reducible repeat (first | refine blk_drewN ?_ _ | refine blk_drew ?_ | refine blk_alloc ?_ _)); refine blk_put (cs := #[.int .i64 0, .slice none 0 0, .slice none 0 0]) ?_ 0 _ rfl; (with_reducible repeat (first | refine blk_drewN ?_ _ | refine blk_drew ?_ | refine blk_alloc ?_ _)); exact BK102.out⟩, ⟨by repeat (first | (with_reducible first | exact HB.out | apply below_alloc | apply pw_below_drewN | apply below_drew1 | refine below_set ?_ GE102.out) | exact HB.out)⟩⟩
         ·replace c15 := Bool.eq_false_iff.mpr c15
          subst c15
          have H1 : ((tlv_Nested.f ((rd_T26 l0 x10_1).f0)).bind fun t106 => (if t106 = true then (tlv_check.j1 k1 a1 l0 (l0.length : Int) x10_1 false ((rd_T26 l0 x10_1).f0) ((rd_T26 l0 x10_1).f1) ((rd_T26 l0 x10_1).f2)) else (tlv_check.j1 k1 a1 l0 (l0.length : Int) x10_1 (decide ((((rd_T26 l0 x10_1).f2).length : Int) > 0)) ((rd_T26 l0 x10_1).f0) ((rd_T26 l0 x10_1).f1) ((rd_T26 l0 x10_1).f2)))) = some r := by rw [if_neg (show ¬ (false = true) by decide)] at H; exact H
          clear H
          have H := H1
          clear H1
          replace H := Option.bind_eq_some_iff.mp H
          obtain ⟨t106, A220, H⟩ := H
          replace H : (if t106 = true then (tlv_check.j1 k1 a1 l0 (l0.length : Int) x10_1 false ((rd_T26 l0 x10_1).f0) ((rd_T26 l0 x10_1).f1) ((rd_T26 l0 x10_1).f2)) else (tlv_check.j1 k1 a1 l0 (l0.length : Int) x10_1 (decide ((((rd_T26 l0 x10_1).f2).length : Int) > 0)) ((rd_T26 l0 x10_1).f0) ((rd_T26 l0 x10_1).f1) ((rd_T26 l0 x10_1).f2))) = some r := H
          have A22 := Aside0.mk A220
          clear A220
          by_cases c23 : t106 = true
          ·subst c23
           have H1 : (tlv_check.j1 k1 a1 l0 (l0.length : Int) x10_1 false ((rd_T26 l0 x10_1).f0) ((rd_T26 l0 x10_1).f1) ((rd_T26 l0 x10_1).f2)) = some r := by rw [if_pos rfl] at H; exact H
           clear H
           have H := H1
           clear H1
           have H' := Aside0.mk H
           clear H
           have hcz24_0 : w12.cell? ⟨gb102, 0, none⟩ = some (.int .i64 0) := (blk_cell BK102.out 0).trans rfl
           have hcz24_1 : w12.cell? ⟨gb102, 1, none⟩ = some (.slice none 0 0) := (blk_cell BK102.out 1).trans rfl
           have hcz24_2 : w12.cell? ⟨gb102, 2, none⟩ = some (.slice none 0 0) := (blk_cell BK102.out 2).trans rfl
           have hfz24_0 := blk_frozen BK102.out 0
           have hfz24_1 := blk_frozen BK102.out 1
           have hfz24_2 := blk_frozen BK102.out 2
           go_wp2_with (first | ((with_reducible refine gate_callee (f := 13) rfl ?_); refine goesL_ (some 25) rfl rfl Try.func13 (by kernel_rfl) rfl #[.int .i64 ((rd_T26 l0 x10_1).f0)] rfl (by (try simp only [List.map_toArray, List.map_cons, List.map_nil]); first | done | rfl | (simp only [List.length_drop, List.length_take]; rfl)) ?_; (with_reducible refine (tlv_Nested.calls ((rd_T26 l0 x10_1).f0) false _ A14.out).mono ?_); rintro e w' ⟨rfl, ⟨nd, rfl⟩⟩; refine ⟨_, rfl, ?_⟩) | (go_at_call 13; (with_reducible refine (tlv_Nested.calls ((rd_T26 l0 x10_1).f0) true _ A22.out).mono ?_); rintro e w' ⟨rfl, ⟨nd, rfl⟩⟩))
           go_meet
           case rel => exact ⟨_, (false), (by first | rfl | (simp; done) | (simp [*]; done)), H', ⟨by have := HK1.out; first | omega | exact Nat.le_refl _⟩, ⟨by (with_reducible repeat (first | refine blk_drewN ?_ _ | refine blk_drew ?_ | refine blk_alloc ?_ _)); refine blk_put (cs := #[.int .i64 ((rd_T26 l0 x10_1).f0), .slice A101_1 ((rd_T26 l0 x10_1).f1).length c101_1, .slice none 0 0]) ?_ 2 _ rfl; (with_reducible repeat (first | refine blk_drewN ?_ _ | refine blk_drew ?_ | refine blk_alloc ?_ _)); refine blk_put (cs := #[.int .i64 ((rd_T26 l0 x10_1).f0), .slice none 0 0, .slice none 0 0]) ?_ 1 _ rfl; (with_reducible repeat (first | refine blk_drewN ?_ _ | refine blk_drew ?_ | refine blk_alloc ?_ _)); refine blk_put (cs := #[.int .i64 0, .slice none 0 0, .slice none 0 0]) ?_ 0 _ rfl; (with_reducible repeat (first | refine blk_drewN ?_ _ | refine blk_drew ?_ | refine blk_alloc ?_ _)); exact BK102.out⟩, ⟨by repeat (first | (with_reducible first | exact HB.out | apply below_alloc | apply pw_below_drewN | apply below_drew1 | refine below_set ?_ GE102.out) | exact HB.out)⟩⟩
          ·replace c23 := Bool.eq_false_iff.mpr c23
           subst c23
           have H1 : (tlv_check.j1 k1 a1 l0 (l0.length : Int) x10_1 (decide ((((rd_T26 l0 x10_1).f2).length : Int) > 0)) ((rd_T26 l0 x10_1).f0) ((rd_T26 l0 x10_1).f1) ((rd_T26 l0 x10_1).f2)) = some r := by rw [if_neg (show ¬ (false = true) by decide)] at H; exact H
           clear H
           have H := H1
           clear H1
           have H' := Aside0.mk H
           clear H
           have hcz25_0 : w12.cell? ⟨gb102, 0, none⟩ = some (.int .i64 0) := (blk_cell BK102.out 0).trans rfl
           have hcz25_1 : w12.cell? ⟨gb102, 1, none⟩ = some (.slice none 0 0) := (blk_cell BK102.out 1).trans rfl
           have hcz25_2 : w12.cell? ⟨gb102, 2, none⟩ = some (.slice none 0 0) := (blk_cell BK102.out 2).trans rfl
           have hfz25_0 := blk_frozen BK102.out 0
           have hfz25_1 := blk_frozen BK102.out 1
           have hfz25_2 := blk_frozen BK102.out 2
           go_wp2_with (first | ((with_reducible refine gate_callee (f := 13) rfl ?_); refine goesL_ (some 25) rfl rfl Try.func13 (by kernel_rfl) rfl #[.int .i64 ((rd_T26 l0 x10_1).f0)] rfl (by (try simp only [List.map_toArray, List.map_cons, List.map_nil]); first | done | rfl | (simp only [List.length_drop, List.length_take]; rfl)) ?_; (with_reducible refine (tlv_Nested.calls ((rd_T26 l0 x10_1).f0) false _ A14.out).mono ?_); rintro e w' ⟨rfl, ⟨nd, rfl⟩⟩; refine ⟨_, rfl, ?_⟩) | (go_at_call 13; (with_reducible refine (tlv_Nested.calls ((rd_T26 l0 x10_1).f0) false _ A22.out).mono ?_); rintro e w' ⟨rfl, ⟨nd, rfl⟩⟩))
           go_meet
           case rel => exact ⟨_, (decide ((((rd_T26 l0 x10_1).f2).length : Int) > 0)), (by first | rfl | (simp; done) | (simp [*]; done)), H', ⟨by have := HK1.out; first | omega | exact Nat.le_refl _⟩, ⟨by (with_reducible repeat (first | refine blk_drewN ?_ _ | refine blk_drew ?_ | refine blk_alloc ?_ _)); refine blk_put (cs := #[.int .i64 ((rd_T26 l0 x10_1).f0), .slice A101_1 ((rd_T26 l0 x10_1).f1).length c101_1, .slice none 0 0]) ?_ 2 _ rfl; (with_reducible repeat (first | refine blk_drewN ?_ _ | refine blk_drew ?_ | refine blk_alloc ?_ _)); refine blk_put (cs := #[.int .i64 ((rd_T26 l0 x10_1).f0), .slice none 0 0, .slice none 0 0]) ?_ 1 _ rfl; (with_reducible repeat (first | refine blk_drewN ?_ _ | refine blk_drew ?_ | refine blk_alloc ?_ _)); refine blk_put (cs := #[.int .i64 0, .slice none 0 0, .slice none 0 0]) ?_ 0 _ rfl; (with_reducible repeat (first | refine blk_drewN ?_ _ | refine blk_drew ?_ | refine blk_alloc ?_ _)); exact BK102.out⟩, ⟨by repeat (first | (with_reducible first | exact HB.out | apply below_alloc | apply pw_below_drewN | apply below_drew1 | refine below_set ?_ GE102.out) | exact HB.out)⟩⟩
        case rest =>
         clear HC11
         try clear c1
         try clear p1
         try clear q1
         try clear hx1
         try clear c2
         try clear p2
         try clear c3
         try clear c3b0
         try clear c4
         try clear c4b0
         try clear c5
         try clear c5b0
         try clear c7
         try clear c8
         try clear c8b0
         try clear c10
         try clear p10
         try clear q10
         try clear hx10
         try clear c13
         try clear c15
         try clear c16
         try clear c16b0
         try clear c16b1
         try clear c19
         try clear c23
         try clear c24
         try clear hcz10_0
         try clear hcz10_1
         try clear hcz10_2
         try clear hcz13_0
         try clear hcz13_1
         try clear hcz13_2
         try clear hcz17_0
         try clear hcz17_1
         try clear hcz17_2
         try clear hcz20_0
         try clear hcz20_1
         try clear hcz20_2
         try clear hcz21_0
         try clear hcz21_1
         try clear hcz21_2
         try clear hcz24_0
         try clear hcz24_1
         try clear hcz24_2
         try clear hcz25_0
         try clear hcz25_1
         try clear hcz25_2
         try clear hfz10_0
         try clear hfz10_1
         try clear hfz10_2
         try clear hfz13_0
         try clear hfz13_1
         try clear hfz13_2
         try clear hfz17_0
         try clear hfz17_1
         try clear hfz17_2
         try clear hfz20_0
         try clear hfz20_1
         try clear hfz20_2
         try clear hfz21_0
         try clear hfz21_1
         try clear hfz21_2
         try clear hfz24_0
         try clear hfz24_1
         try clear hfz24_2
         try clear hfz25_0
         try clear hfz25_1
         try clear hfz25_2
         try clear hx101_0
         try clear hx101_1
         try clear hx101_2
         try clear p101
         try clear p2
         try clear q101
         obtain ⟨kq, x22_10, rfl, HA, HJ10, BK102, HB⟩ := hcut
         cases kq with
         | zero => exact absurd HA.out (by simp [tlv_check.j1])
         | succ kj10 =>
          have H := HA.out
          clear HA
          simp only [tlv_check.j1] at H
          by_cases c26 : x22_10 = true
          ·subst c26
           have H1 : (some 12) = some r := by rw [if_pos rfl] at H; exact H
           clear H
           have H := H1
           clear H1
           obtain rfl := Option.some.inj H
           go_wp2
           go_ret
           exact ⟨by first | rfl | (simp [errW_none, errW_some] <;> rfl) | (simp [*, errW_none, errW_some] <;> rfl), by repeat (first | (with_reducible first | exact HB.out | apply below_alloc | apply pw_below_drewN | apply below_drew1 | refine below_set ?_ GE102.out) | exact HB.out)⟩
          ·replace c26 := Bool.eq_false_iff.mpr c26
           subst c26
           have H1 : ((tlv_check.f kj10 ((rd_T26 l0 x10_1).f2) (wrap64 (a1 + 1))).bind fun t107 => (if t107 = 0 then (tlv_check.l0 kj10 a1 l0 (l0.length : Int) (wrap64 (x10_1 + 1))) else (some t107))) = some r := by rw [if_neg (show ¬ (false = true) by decide)] at H; exact H
           clear H
           have H := H1
           clear H1
           replace H := Option.bind_eq_some_iff.mp H
           obtain ⟨t107, A270, H⟩ := H
           replace H : (if t107 = 0 then (tlv_check.l0 kj10 a1 l0 (l0.length : Int) (wrap64 (x10_1 + 1))) else (some t107)) = some r := H
           have A27 := Aside0.mk A270
           clear A270
           by_cases c28 : t107 = 0
           ·rw [if_pos c28] at H
            have c28b0 : (t107 == 0) = true := beq_iff_eq.mpr c28
            have c28b1 : (t107 != 0) = false := bne_eq_false_iff_eq.mpr c28
            clear c28
            have H' := Aside0.mk H
            clear H
            have hcz29_0 : wc.cell? ⟨gb102, 0, none⟩ = some (.int .i64 ((rd_T26 l0 x10_1).f0)) := (blk_cell BK102.out 0).trans rfl
            have hcz29_1 : wc.cell? ⟨gb102, 1, none⟩ = some (.slice A101_1 ((rd_T26 l0 x10_1).f1).length c101_1) := (blk_cell BK102.out 1).trans rfl
            have hcz29_2 : wc.cell? ⟨gb102, 2, none⟩ = some (.slice A101_2 ((rd_T26 l0 x10_1).f2).length c101_2) := (blk_cell BK102.out 2).trans rfl
            have hfz29_0 := blk_frozen BK102.out 0
            have hfz29_1 := blk_frozen BK102.out 1
            have hfz29_2 := blk_frozen BK102.out 2
            go_wp2_with (first | ((with_reducible refine gate_callee (f := 24) rfl ?_); refine goesL_ (some 48) rfl rfl Try.func24 (by kernel_rfl) rfl #[.slice A101_2 ((rd_T26 l0 x10_1).f2).length c101_2, .int .i64 (wrap64 (a1 + 1))] rfl (by (try simp only [List.map_toArray, List.map_cons, List.map_nil]); first | done | rfl | (simp only [List.length_drop, List.length_take]; rfl)) ?_; (with_reducible refine (ih kj10 (by have := HK1.out; have := HJ10.out; omega) _ _ ((rd_T26 l0 x10_1).f2) (wrap64 (a1 + 1)) t107 _ ?side1 ?side2 A27.out).mono ?_); (case side1 => repeat (first | exact (Kd.C_below HR101_2.out HB.out) | (with_reducible refine Kd.C_alloc ?_ _) | (with_reducible refine Kd.C_drewN ?_ _) | (with_reducible refine Kd.C_drew ?_))); (case side2 => exact HC101_2.out); rintro e w30 ⟨rfl, hb⟩; refine ⟨_, rfl, ?_⟩; have n0_ := Aside0.mk (blk_below (g := gb102) (o := .cells #[.int .i64 ((rd_T26 l0 x10_1).f0), .slice A101_1 ((rd_T26 l0 x10_1).f1).length c101_1, .slice A101_2 ((rd_T26 l0 x10_1).f2).length c101_2] 26 (0, 0)) (by (with_reducible repeat (first | refine blk_drewN ?_ _ | refine blk_drew ?_ | refine blk_alloc ?_ _)); exact BK102.out) hb); have n1_ := Aside0.mk (below_step (by repeat (first | (with_reducible first | exact HB.out | apply below_alloc | apply pw_below_drewN | apply below_drew1 | refine below_set ?_ GE102.out) | exact HB.out)) hb); clear BK102; clear HB; have BK102 := n0_; have HB := n1_; clear n0_ n1_; (try clear hb); (try clear hb2); (try clear hk); (try clear hi)))
            go_roundg kj10
            case measure => have := HK1.out; have := HJ10.out; omega
            case rel => exact ⟨(wrap64 (x10_1 + 1)), (by first | rfl | (simp; done) | (simp [*]; done)), H', ⟨by have := HK1.out; have := HJ10.out; omega⟩, ⟨by repeat (first | (with_reducible first | exact HB.out | apply below_alloc | apply pw_below_drewN | apply below_drew1 | refine below_set ?_ GE102.out) | exact HB.out)⟩⟩
           ·rw [if_neg c28] at H
            have c28b0 : (t107 == 0) = false := beq_eq_false_iff_ne.mpr c28
            have c28b1 : (t107 != 0) = true := bne_iff_ne.mpr c28
            obtain rfl := Option.some.inj H
            have hcz31_0 : wc.cell? ⟨gb102, 0, none⟩ = some (.int .i64 ((rd_T26 l0 x10_1).f0)) := (blk_cell BK102.out 0).trans rfl
            have hcz31_1 : wc.cell? ⟨gb102, 1, none⟩ = some (.slice A101_1 ((rd_T26 l0 x10_1).f1).length c101_1) := (blk_cell BK102.out 1).trans rfl
            have hcz31_2 : wc.cell? ⟨gb102, 2, none⟩ = some (.slice A101_2 ((rd_T26 l0 x10_1).f2).length c101_2) := (blk_cell BK102.out 2).trans rfl
            have hfz31_0 := blk_frozen BK102.out 0
            have hfz31_1 := blk_frozen BK102.out 1
            have hfz31_2 := blk_frozen BK102.out 2
            go_wp2_with (first | ((with_reducible refine gate_callee (f := 24) rfl ?_); refine goesL_ (some 48) rfl rfl Try.func24 (by kernel_rfl) rfl #[.slice A101_2 ((rd_T26 l0 x10_1).f2).length c101_2, .int .i64 (wrap64 (a1 + 1))] rfl (by (try simp only [List.map_toArray, List.map_cons, List.map_nil]); first | done | rfl | (simp only [List.length_drop, List.length_take]; rfl)) ?_; (with_reducible refine (ih kj10 (by have := HK1.out; have := HJ10.out; omega) _ _ ((rd_T26 l0 x10_1).f2) (wrap64 (a1 + 1)) t107 _ ?side1 ?side2 A27.out).mono ?_); (case side1 => repeat (first | exact (Kd.C_below HR101_2.out HB.out) | (with_reducible refine Kd.C_alloc ?_ _) | (with_reducible refine Kd.C_drewN ?_ _) | (with_reducible refine Kd.C_drew ?_))); (case side2 => exact HC101_2.out); rintro e w32 ⟨rfl, hb⟩; refine ⟨_, rfl, ?_⟩; have n0_ := Aside0.mk (blk_below (g := gb102) (o := .cells #[.int .i64 ((rd_T26 l0 x10_1).f0), .slice A101_1 ((rd_T26 l0 x10_1).f1).length c101_1, .slice A101_2 ((rd_T26 l0 x10_1).f2).length c101_2] 26 (0, 0)) (by (with_reducible repeat (first | refine blk_drewN ?_ _ | refine blk_drew ?_ | refine blk_alloc ?_ _)); exact BK102.out) hb); have n1_ := Aside0.mk (below_step (by repeat (first | (with_reducible first | exact HB.out | apply below_alloc | apply pw_below_drewN | apply below_drew1 | refine below_set ?_ GE102.out) | exact HB.out)) hb); clear BK102; clear HB; have BK102 := n0_; have HB := n1_; clear n0_ n1_; (try clear hb); (try clear hb2); (try clear hk); (try clear hi)))
            go_ret
            exact ⟨by first | rfl | (simp [errW_none, errW_some] <;> rfl) | (simp [*, errW_none, errW_some] <;> rfl), by repeat (first | (with_reducible first | exact HB.out | apply below_alloc | apply pw_below_drewN | apply below_drew1 | refine below_set ?_ GE102.out) | exact HB.out)⟩
      ·replace c7 := Bool.eq_false_iff.mpr c7
       subst c7
       have H1 : (some 15) = some r := by rw [if_neg (show ¬ (false = true) by decide)] at H; exact H
       clear H
       have H := H1
       clear H1
       obtain rfl := Option.some.inj H
       have p101 : 0 ≤ (x10_1 : Int) := of_decide_eq_true (by first | (with_reducible assumption) | assumption)
       have q101 : x10_1 < (l0.length : Int) := of_decide_eq_true (by first | (with_reducible assumption) | assumption)
       obtain ⟨ad101, A101_1, c101_1, A101_2, c101_2, e101, hx101_0, hx101_1, hx101_2, hl101_1, hi101_1, hl101_2, hi101_2⟩ := at_T26 HR0.out x10_1 p101 q101
       cases e101
       replace hx101_0 := (HB.out.cell (World.block_lt_of_cell? w _ hx101_0)).trans hx101_0
       replace hx101_1 := (HB.out.cell (World.block_lt_of_cell? w _ hx101_1)).trans hx101_1
       replace hx101_2 := (HB.out.cell (World.block_lt_of_cell? w _ hx101_2)).trans hx101_2
       have HR101_1 := Aside0.mk hi101_1
       have HC101_1 := Aside0.mk hl101_1
       clear hi101_1 hl101_1
       have HR101_2 := Aside0.mk hi101_2
       have HC101_2 := Aside0.mk hl101_2
       clear hi101_2 hl101_2
       replace p101 := eq_true p101
       replace q101 := eq_true q101
       go_wp2_with (first | ((with_reducible refine gate_dst (N := 6) rfl ?_); (try (refine gate_guard (by rfl) ?_; dsimp only)); refine box_event ?hg (N := 6) ?hd (cs := #[.int .i64 0, .slice none 0 0, .slice none 0 0]) (t := 26) ?hr ?_; (case hd => rfl); (case hg => rfl); (case hr => first | (go_simp; done) | (go_simp; rfl)); intro gb102 hg w33 hbox hb; have n0_ := Aside0.mk (below_step (by repeat (first | (with_reducible first | exact HB.out | apply below_alloc | apply pw_below_drewN | apply below_drew1) | exact HB.out)) hb); have n1_ := Aside0.mk (hbox); have n2_ := Aside0.mk ((by rw [hg]; exact (below_size (by repeat (first | (with_reducible first | exact HB.out | apply below_alloc | apply pw_below_drewN | apply below_drew1) | exact HB.out))) : w.heap.size ≤ gb102)); have n3_ := Aside0.mk ((by rw [hg]; exact (below_size (by repeat (first | (with_reducible first | exact HB.out | apply below_alloc | apply pw_below_drewN | apply below_drew1) | exact HB.out))) : w.heap.size ≤ gb102)); clear HB; have HB := n0_; have BK102 := n1_; have GW102 := n2_; have GE102 := n3_; clear n0_ n1_ n2_ n3_; clear hb hbox hg; have hcz34_0 : w33.cell? ⟨gb102, 0, none⟩ = some (.int .i64 0) := (blk_cell BK102.out 0).trans rfl; have hcz34_1 : w33.cell? ⟨gb102, 1, none⟩ = some (.slice none 0 0) := (blk_cell BK102.out 1).trans rfl; have hcz34_2 : w33.cell? ⟨gb102, 2, none⟩ = some (.slice none 0 0) := (blk_cell BK102.out 2).trans rfl; have hfz34_0 := blk_frozen BK102.out 0; have hfz34_1 := blk_frozen BK102.out 1; have hfz34_2 := blk_frozen BK102.out 2) | ((with_reducible refine gate_callee (f := 37) rfl ?_); refine goesL_ (some 17) rfl rfl Try.func37 (by kernel_rfl) rfl #[.int .i64 ((rd_T26 l0 x10_1).f0)] rfl (by (try simp only [List.map_toArray, List.map_cons, List.map_nil]); first | done | rfl | (simp only [List.length_drop, List.length_take]; rfl)) ?_; (with_reducible refine (tlv_tag.calls ((rd_T26 l0 x10_1).f0) false _ A6.out).mono ?_); rintro e w' ⟨rfl, ⟨nd, rfl⟩⟩; refine ⟨_, rfl, ?_⟩))
       go_ret
       exact ⟨by first | rfl | (simp [errW_none, errW_some] <;> rfl) | (simp [*, errW_none, errW_some] <;> rfl), by repeat (first | (with_reducible first | exact HB.out | apply below_alloc | apply pw_below_drewN | apply below_drew1 | refine below_set ?_ GE102.out) | exact HB.out)⟩
     ·rw [if_neg c5] at H
      exact absurd H (by simp)
    ·rw [if_neg c4] at H
     exact absurd H (by simp)
   ·rw [if_neg c3] at H
    have c3b0 : decide (x10_1 < (l0.length : Int)) = false := decide_eq_false c3
    clear c3
    obtain rfl := Option.some.inj H
    go_wp2
    go_ret
    exact ⟨by first | rfl | (simp [errW_none, errW_some] <;> rfl) | (simp [*, errW_none, errW_some] <;> rfl), by repeat (first | (with_reducible first | exact HB.out | apply below_alloc | apply pw_below_drewN | apply below_drew1) | exact HB.out)⟩

end Go.Proofs.Ytafbnfpabcaebaa.XT
