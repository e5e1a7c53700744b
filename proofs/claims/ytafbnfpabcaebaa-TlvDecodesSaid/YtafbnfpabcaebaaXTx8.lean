/- Written by xprint.py, a program of this session over the kit's print: what functions of the program come to, walked. -/
import Derived.Test.YtafbnfpabcaebaaXTx0
namespace Go.Proofs.Ytafbnfpabcaebaa.XT
open Go.RowKit Go.Proofs.YtafbnfpabcaebaaW.PrintWords Go.Proofs.YtafbnfpabcaebaaW.PrintLast Go.Proofs.YtafbnfpabcaebaaW.PrintMore
attribute [local go_sem] max2_int min2_int max_two min_two max_three min_three max_four min_four   -- for this text's walks alone
set_option linter.unusedVariables false
set_option linter.unusedSimpArgs false

/-! ### substationref10_Same: function 20 -/
mutual
def substationref10_Same.l0 : Nat → List (S53) → List (S53) → Int → Option (Bool)
 | 0, _, _, _ => none
 | k + 1, x0, x1, x5 => if x5 < (x0.length : Int) then (if 0 ≤ x5 then (if x5 < (x1.length : Int) then (if ((rd_T53 x0 x5).f0) = ((rd_T53 x1 x5).f0) then (if (strOfNums ((rd_T53 x0 x5).f1)).toList = (strOfNums ((rd_T53 x1 x5).f1)).toList then ((substationref10_Same.f k ((rd_T53 x0 x5).f2) ((rd_T53 x1 x5).f2)).bind fun t201 => (if t201 = true then (substationref10_Same.l0 k x0 x1 (wrap64 (x5 + 1))) else (some false))) else (some false)) else (some false)) else (none)) else (none)) else (some true)
def substationref10_Same.f : Nat → List (S53) → List (S53) → Option (Bool)
 | 0, _, _ => none
 | k + 1, l0, l1 => if (l0.length : Int) = (l1.length : Int) then (substationref10_Same.l0 k l0 l1 0) else (some false)
end
theorem substationref10_Same.mono_l : ∀ k, (∀ y0 y1, LeO (substationref10_Same.f k y0 y1) (substationref10_Same.f (k + 1) y0 y1)) ∧ (∀ y0 y1 y2, LeO (substationref10_Same.l0 k y0 y1 y2) (substationref10_Same.l0 (k + 1) y0 y1 y2))
 | 0 => ⟨fun _ _ r h => by simp [substationref10_Same.f] at h, fun _ _ _ r h => by simp [substationref10_Same.l0] at h⟩
 | k + 1 => by
  obtain ⟨ih0, ih1⟩ := substationref10_Same.mono_l k
  refine ⟨?_, ?_⟩
  ·intro y0 y1
   unfold substationref10_Same.f
   repeat' first
   | (with_reducible exact ih0 _ _)
   | (with_reducible exact ih1 _ _ _)
   | (with_reducible exact LeO.refl _)
   | (with_reducible exact LeO.none _)
   | (with_reducible refine LeO.ite ?_ ?_)
   | (with_reducible refine LeO.bind ?_ (fun _ => ?_))
   | exact ih0 _ _
   | exact ih1 _ _ _
   | exact LeO.none _
   | refine LeO.ite ?_ ?_
   | refine LeO.bind ?_ (fun _ => ?_)
  ·intro y0 y1 y2
   unfold substationref10_Same.l0
   repeat' first
   | (with_reducible exact ih0 _ _)
   | (with_reducible exact ih1 _ _ _)
   | (with_reducible exact LeO.refl _)
   | (with_reducible exact LeO.none _)
   | (with_reducible refine LeO.ite ?_ ?_)
   | (with_reducible refine LeO.bind ?_ (fun _ => ?_))
   | exact ih0 _ _
   | exact ih1 _ _ _
   | exact LeO.none _
   | refine LeO.ite ?_ ?_
   | refine LeO.bind ?_ (fun _ => ?_)
theorem substationref10_Same.mono : ∀ a0 a1 k, LeO (substationref10_Same.f k a0 a1) (substationref10_Same.f (k + 1) a0 a1) := by
 intro a0 a1 k
 obtain ⟨ih0, ih1⟩ := substationref10_Same.mono_l k
 exact ih0 a0 a1
def substationref10_Same.T6 : Bool × List (List Nat × List Nat) := (true, [([], []), ([], []), ([0, 1], [0, 1]), ([2], [2]), ([3], [3]), ([], []), ([], []), ([5, 6], [5, 6]), ([7], [7]), ([8], [8]), ([4, 9], [4, 9]), ([10], [10]), ([11], [11]), ([11], [11]), ([12, 13, 11], [11, 12, 13]), ([14, 11], [11, 14]), ([15, 11], [11, 15]), ([16, 11], [11, 16]), ([11], [11]), ([11], [11]), ([18, 19, 11], [11, 18, 19]), ([20, 11], [11, 20]), ([21, 11], [11, 21]), ([22, 11], [11, 22]), ([17, 23, 11], [11, 17, 23]), ([11, 24], [11, 24]), ([25, 11], [25]), ([26], [26]), ([26], [26]), ([27, 28, 26], [26, 27, 28]), ([29, 26], [26, 29]), ([30, 26], [26, 30]), ([26], [26]), ([26], [26]), ([32, 33, 26], [26, 32, 33]), ([34, 26], [26, 34]), ([35, 26], [26, 35]), ([31, 36, 26, 26], [26, 31, 36]), ([37, 26], [26, 37]), ([26, 38], [26, 38])])
def substationref10_Same.B6 : List Nat := [0, 0, 3, 7, 15, 0, 0, 96, 224, 480, 1023, 2047, 4095, 4095, 16383, 32767, 65535, 131071, 4095, 4095, 790527, 1839103, 3936255, 8130559, 16777215, 33554431, 67108863, 134217727, 134217727, 536870911, 1073741823, 2147483647, 134217727, 134217727, 13019119615, 30198988799, 64558727167, 137438953471, 274877906943, 549755813887]
theorem substationref10_Same.tab6 : rtab .any (opsOf Try.f20 6) = substationref10_Same.T6 := by kernel_rfl
theorem substationref10_Same.bits6 : waitsOk substationref10_Same.T6.2 substationref10_Same.B6 = true := by kernel_rfl
set_option maxHeartbeats 8000000 in
set_option maxRecDepth 100000 in
theorem substationref10_Same.calls (k : Nat) : ∀ (A0 : Option Addr) (c0 : Nat) (l0 : List (S53)) (A1 : Option Addr) (c1 : Nat) (l1 : List (S53)) (r : Bool) (w : World) (hr0 : Kd.C k53 w A0 l0.length l0) (hc0 : l0.length ≤ c0) (hr1 : Kd.C k53 w A1 l1.length l1) (hc1 : l1.length ≤ c1) (h : substationref10_Same.f k l0 l1 = some r),
  Calls Try.prog 20 #[.slice A0 l0.length c0, .slice A1 l1.length c1] w fun e w' => e = .returned (.bool r) ∧ Below w.heap.size w w' := by
 induction k using Nat.strongRecOn with
 | _ k ih =>
 intro A0 c0 l0 A1 c1 l1 r w hr0 hc0 hr1 hc1 h
 cases k with
 | zero => exact absurd h (by simp [substationref10_Same.f])
 | succ k =>
 simp only [substationref10_Same.f] at h
 have HR0 := Aside0.mk hr0
 have HC0 := Aside0.mk hc0
 clear hr0 hc0
 have HR1 := Aside0.mk hr1
 have HC1 := Aside0.mk hc1
 clear hr1 hc1
 have HB := Aside0.mk (Below.refl w.heap.size w)
 have H : (if (l0.length : Int) = (l1.length : Int) then (substationref10_Same.l0 k l0 l1 0) else (some false)) = some r := h
 clear h
 by_cases c3 : (l0.length : Int) = (l1.length : Int)
 ·rw [if_pos c3] at H
  have c3b0 : ((l0.length : Int) == (l1.length : Int)) = true := beq_iff_eq.mpr c3
  have c3b1 : ((l0.length : Int) != (l1.length : Int)) = false := bne_eq_false_iff_eq.mpr c3
  have c3b2 : (l0.length == l1.length) = true := by first | simpa using c3 | (simp at c3 ⊢; omega)
  clear c3
  have H' := Aside0.mk H
  clear H
  go_enter Try.func20, Try.ntmps20
  go_wp2
  go_loopg [5] k (fun kq v5 w' => ∃ (x5_1 : Int), v5 = .int .i64 x5_1 ∧ Aside0 (substationref10_Same.l0 kq l0 l1 x5_1 = some r) ∧ Aside0 (kq ≤ k) ∧ Aside0 (Below w.heap.size w w'))
  case atStart => exact ⟨(0), (by first | rfl | (simp; done) | (simp [*]; done)), H', ⟨Nat.le_refl _⟩, ⟨by repeat (first | (with_reducible first | exact HB.out | apply below_alloc | apply pw_below_drewN | apply below_drew1) | exact HB.out)⟩⟩
  case round =>
   clear H'
   try clear c1
   try clear c2
   try clear p2
   try clear c3
   try clear c3b0
   try clear c3b1
   try clear c3b2
   obtain ⟨x5_1, rfl, HA, HK1, HB⟩ := hrel
   cases gk with
   | zero => exact absurd HA.out (by simp [substationref10_Same.l0])
   | succ k1 =>
    have H := HA.out
    clear HA
    simp only [substationref10_Same.l0] at H
    by_cases c4 : x5_1 < (l0.length : Int)
    ·rw [if_pos c4] at H
     have c4b0 : decide (x5_1 < (l0.length : Int)) = true := decide_eq_true c4
     clear c4
     by_cases c5 : 0 ≤ x5_1
     ·rw [if_pos c5] at H
      have c5b0 : decide (0 ≤ x5_1) = true := decide_eq_true c5
      clear c5
      by_cases c6 : x5_1 < (l1.length : Int)
      ·rw [if_pos c6] at H
       have c6b0 : decide (x5_1 < (l1.length : Int)) = true := decide_eq_true c6
       clear c6
       by_cases c7 : ((rd_T53 l0 x5_1).f0) = ((rd_T53 l1 x5_1).f0)
       ·rw [if_pos c7] at H
        have c7b0 : (((rd_T53 l0 x5_1).f0) == ((rd_T53 l1 x5_1).f0)) = true := beq_iff_eq.mpr c7
        have c7b1 : (((rd_T53 l0 x5_1).f0) != ((rd_T53 l1 x5_1).f0)) = false := bne_eq_false_iff_eq.mpr c7
        clear c7
        by_cases c8 : (strOfNums ((rd_T53 l0 x5_1).f1)).toList = (strOfNums ((rd_T53 l1 x5_1).f1)).toList
        ·rw [if_pos c8] at H
         have c8b0 : ((strOfNums ((rd_T53 l0 x5_1).f1)).toList == (strOfNums ((rd_T53 l1 x5_1).f1)).toList) = true := beq_iff_eq.mpr c8
         have c8b1 : ((strOfNums ((rd_T53 l0 x5_1).f1)).toList != (strOfNums ((rd_T53 l1 x5_1).f1)).toList) = false := bne_eq_false_iff_eq.mpr c8
         clear c8
         replace H := Option.bind_eq_some_iff.mp H
         obtain ⟨t201, A90, H⟩ := H
         replace H : (if t201 = true then (substationref10_Same.l0 k1 l0 l1 (wrap64 (x5_1 + 1))) else (some false)) = some r := H
         have A9 := Aside0.mk A90
         clear A90
         by_cases c10 : t201 = true
         ·subst c10
          have H1 : (substationref10_Same.l0 k1 l0 l1 (wrap64 (x5_1 + 1))) = some r := by rw [if_pos rfl] at H; exact H
          clear H
          have H := H1
          clear H1
          have H' := Aside0.mk H
          clear H
          try go_wp2
          have n0_ := Aside0.mk (below_drew1 HB.out)
          clear HB
          have HB := n0_
          clear n0_
          have p195 : 0 ≤ (x5_1 : Int) := of_decide_eq_true (by first | (with_reducible assumption) | assumption)
          have q195 : x5_1 < (l0.length : Int) := of_decide_eq_true (by first | (with_reducible assumption) | assumption)
          obtain ⟨ad195, A195_1, c195_1, A195_2, c195_2, e195, hx195_0, hx195_1, hx195_2, hl195_1, hi195_1, hl195_2, hi195_2⟩ := at_T53 HR0.out x5_1 p195 q195
          have hw195_2 := hx195_2
          have hw195_1 := hx195_1
          have hw195_0 := hx195_0
          cases e195
          replace hx195_0 := (HB.out.cell (World.block_lt_of_cell? w _ hx195_0)).trans hx195_0
          replace hx195_1 := (HB.out.cell (World.block_lt_of_cell? w _ hx195_1)).trans hx195_1
          replace hx195_2 := (HB.out.cell (World.block_lt_of_cell? w _ hx195_2)).trans hx195_2
          have HR195_1 := Aside0.mk hi195_1
          have HC195_1 := Aside0.mk hl195_1
          clear hi195_1 hl195_1
          have HR195_2 := Aside0.mk hi195_2
          have HC195_2 := Aside0.mk hl195_2
          clear hi195_2 hl195_2
          replace p195 := eq_true p195
          replace q195 := eq_true q195
          have p196 : 0 ≤ (x5_1 : Int) := of_decide_eq_true (by first | (with_reducible assumption) | assumption)
          have q196 : x5_1 < (l1.length : Int) := of_decide_eq_true (by first | (with_reducible assumption) | assumption)
          obtain ⟨ad196, A196_1, c196_1, A196_2, c196_2, e196, hx196_0, hx196_1, hx196_2, hl196_1, hi196_1, hl196_2, hi196_2⟩ := at_T53 HR1.out x5_1 p196 q196
          have hw196_2 := hx196_2
          have hw196_1 := hx196_1
          have hw196_0 := hx196_0
          cases e196
          replace hx196_0 := (HB.out.cell (World.block_lt_of_cell? w _ hx196_0)).trans hx196_0
          replace hx196_1 := (HB.out.cell (World.block_lt_of_cell? w _ hx196_1)).trans hx196_1
          replace hx196_2 := (HB.out.cell (World.block_lt_of_cell? w _ hx196_2)).trans hx196_2
          have HR196_1 := Aside0.mk hi196_1
          have HC196_1 := Aside0.mk hl196_1
          clear hi196_1 hl196_1
          have HR196_2 := Aside0.mk hi196_2
          have HC196_2 := Aside0.mk hl196_2
          clear hi196_2 hl196_2
          replace p196 := eq_true p196
          replace q196 := eq_true q196
          have p197 : 0 ≤ (x5_1 : Int) := of_decide_eq_true (by first | (with_reducible assumption) | assumption)
          have q197 : x5_1 < (l0.length : Int) := of_decide_eq_true (by first | (with_reducible assumption) | assumption)
          obtain ⟨ad197, A197_1, c197_1, A197_2, c197_2, e197, hx197_0, hx197_1, hx197_2, hl197_1, hi197_1, hl197_2, hi197_2⟩ := at_T53 HR0.out x5_1 p197 q197
          have hw197_2 := hx197_2
          have hw197_1 := hx197_1
          have hw197_0 := hx197_0
          obtain rfl : ad195 = ad197 := (by injection e197)
          replace hx197_0 := (HB.out.cell (World.block_lt_of_cell? w _ hx197_0)).trans hx197_0
          replace hx197_1 := (HB.out.cell (World.block_lt_of_cell? w _ hx197_1)).trans hx197_1
          replace hx197_2 := (HB.out.cell (World.block_lt_of_cell? w _ hx197_2)).trans hx197_2
          have HR197_1 := Aside0.mk hi197_1
          have HC197_1 := Aside0.mk hl197_1
          clear hi197_1 hl197_1
          have HR197_2 := Aside0.mk hi197_2
          have HC197_2 := Aside0.mk hl197_2
          clear hi197_2 hl197_2
          replace p197 := eq_true p197
          replace q197 := eq_true q197
          have ea_ := Option.some.inj (hx195_1.symm.trans hx197_1)
          injection ea_ with ea_ en_ ec_
          subst ea_
          subst ec_
          clear en_
          have ea_ := Option.some.inj (hx195_2.symm.trans hx197_2)
          injection ea_ with ea_ en_ ec_
          subst ea_
          subst ec_
          clear en_
          have p198 : 0 ≤ (x5_1 : Int) := of_decide_eq_true (by first | (with_reducible assumption) | assumption)
          have q198 : x5_1 < (l1.length : Int) := of_decide_eq_true (by first | (with_reducible assumption) | assumption)
          obtain ⟨ad198, A198_1, c198_1, A198_2, c198_2, e198, hx198_0, hx198_1, hx198_2, hl198_1, hi198_1, hl198_2, hi198_2⟩ := at_T53 HR1.out x5_1 p198 q198
          have hw198_2 := hx198_2
          have hw198_1 := hx198_1
          have hw198_0 := hx198_0
          obtain rfl : ad196 = ad198 := (by injection e198)
          replace hx198_0 := (HB.out.cell (World.block_lt_of_cell? w _ hx198_0)).trans hx198_0
          replace hx198_1 := (HB.out.cell (World.block_lt_of_cell? w _ hx198_1)).trans hx198_1
          replace hx198_2 := (HB.out.cell (World.block_lt_of_cell? w _ hx198_2)).trans hx198_2
          have HR198_1 := Aside0.mk hi198_1
          have HC198_1 := Aside0.mk hl198_1
          clear hi198_1 hl198_1
          have HR198_2 := Aside0.mk hi198_2
          have HC198_2 := Aside0.mk hl198_2
          clear hi198_2 hl198_2
          replace p198 := eq_true p198
          replace q198 := eq_true q198
          have ea_ := Option.some.inj (hx196_1.symm.trans hx198_1)
          injection ea_ with ea_ en_ ec_
          subst ea_
          subst ec_
          clear en_
          have ea_ := Option.some.inj (hx196_2.symm.trans hx198_2)
          injection ea_ with ea_ en_ ec_
          subst ea_
          subst ec_
          clear en_
          have p199 : 0 ≤ (x5_1 : Int) := of_decide_eq_true (by first | (with_reducible assumption) | assumption)
          have q199 : x5_1 < (l0.length : Int) := of_decide_eq_true (by first | (with_reducible assumption) | assumption)
          obtain ⟨ad199, A199_1, c199_1, A199_2, c199_2, e199, hx199_0, hx199_1, hx199_2, hl199_1, hi199_1, hl199_2, hi199_2⟩ := at_T53 HR0.out x5_1 p199 q199
          have hw199_2 := hx199_2
          have hw199_1 := hx199_1
          have hw199_0 := hx199_0
          obtain rfl : ad195 = ad199 := (by injection e199)
          replace hx199_0 := (HB.out.cell (World.block_lt_of_cell? w _ hx199_0)).trans hx199_0
          replace hx199_1 := (HB.out.cell (World.block_lt_of_cell? w _ hx199_1)).trans hx199_1
          replace hx199_2 := (HB.out.cell (World.block_lt_of_cell? w _ hx199_2)).trans hx199_2
          have HR199_1 := Aside0.mk hi199_1
          have HC199_1 := Aside0.mk hl199_1
          clear hi199_1 hl199_1
          have HR199_2 := Aside0.mk hi199_2
          have HC199_2 := Aside0.mk hl199_2
          clear hi199_2 hl199_2
          replace p199 := eq_true p199
          replace q199 := eq_true q199
          have ea_ := Option.some.inj (hx195_1.symm.trans hx199_1)
          injection ea_ with ea_ en_ ec_
          subst ea_
          subst ec_
          clear en_
          have ea_ := Option.some.inj (hx195_2.symm.trans hx199_2)
          injection ea_ with ea_ en_ ec_
          subst ea_
          subst ec_
          clear en_
          have p200 : 0 ≤ (x5_1 : Int) := of_decide_eq_true (by first | (with_reducible assumption) | assumption)
          have q200 : x5_1 < (l1.length : Int) := of_decide_eq_true (by first | (with_reducible assumption) | assumption)
          obtain ⟨ad200, A200_1, c200_1, A200_2, c200_2, e200, hx200_0, hx200_1, hx200_2, hl200_1, hi200_1, hl200_2, hi200_2⟩ := at_T53 HR1.out x5_1 p200 q200
          have hw200_2 := hx200_2
          have hw200_1 := hx200_1
          have hw200_0 := hx200_0
          obtain rfl : ad196 = ad200 := (by injection e200)
          replace hx200_0 := (HB.out.cell (World.block_lt_of_cell? w _ hx200_0)).trans hx200_0
          replace hx200_1 := (HB.out.cell (World.block_lt_of_cell? w _ hx200_1)).trans hx200_1
          replace hx200_2 := (HB.out.cell (World.block_lt_of_cell? w _ hx200_2)).trans hx200_2
          have HR200_1 := Aside0.mk hi200_1
          have HC200_1 := Aside0.mk hl200_1
          clear hi200_1 hl200_1
          have HR200_2 := Aside0.mk hi200_2
          have HC200_2 := Aside0.mk hl200_2
          clear hi200_2 hl200_2
          replace p200 := eq_true p200
          replace q200 := eq_true q200
          have ea_ := Option.some.inj (hx196_1.symm.trans hx200_1)
          injection ea_ with ea_ en_ ec_
          subst ea_
          subst ec_
          clear en_
          have ea_ := Option.some.inj (hx196_2.symm.trans hx200_2)
          injection ea_ with ea_ en_ ec_
          subst ea_
          subst ec_
          clear en_
          refine start_ (n := 40) (S := fun w' => w'.cell? (ad195.add ((x5_1).toNat * 3)) = some (.int .i64 ((rd_T53 l0 x5_1).f0)) ∧ w'.cell? ⟨(ad195.add ((x5_1).toNat * 3)).block, (ad195.add ((x5_1).toNat * 3)).off + 1, none⟩ = some (.slice A195_1 ((rd_T53 l0 x5_1).f1).length c195_1) ∧ w'.cell? ⟨(ad195.add ((x5_1).toNat * 3)).block, (ad195.add ((x5_1).toNat * 3)).off + 2, none⟩ = some (.slice A195_2 ((rd_T53 l0 x5_1).f2).length c195_2) ∧ w'.cell? (ad196.add ((x5_1).toNat * 3)) = some (.int .i64 ((rd_T53 l1 x5_1).f0)) ∧ w'.cell? ⟨(ad196.add ((x5_1).toNat * 3)).block, (ad196.add ((x5_1).toNat * 3)).off + 1, none⟩ = some (.slice A196_1 ((rd_T53 l1 x5_1).f1).length c196_1) ∧ w'.cell? ⟨(ad196.add ((x5_1).toNat * 3)).block, (ad196.add ((x5_1).toNat * 3)).off + 2, none⟩ = some (.slice A196_2 ((rd_T53 l1 x5_1).f2).length c196_2) ∧ w'.cell? (ad195.add ((x5_1).toNat * 3)) = some (.int .i64 ((rd_T53 l0 x5_1).f0)) ∧ w'.cell? ⟨(ad195.add ((x5_1).toNat * 3)).block, (ad195.add ((x5_1).toNat * 3)).off + 1, none⟩ = some (.slice A195_1 ((rd_T53 l0 x5_1).f1).length c195_1) ∧ w'.cell? ⟨(ad195.add ((x5_1).toNat * 3)).block, (ad195.add ((x5_1).toNat * 3)).off + 2, none⟩ = some (.slice A195_2 ((rd_T53 l0 x5_1).f2).length c195_2) ∧ w'.cell? (ad196.add ((x5_1).toNat * 3)) = some (.int .i64 ((rd_T53 l1 x5_1).f0)) ∧ w'.cell? ⟨(ad196.add ((x5_1).toNat * 3)).block, (ad196.add ((x5_1).toNat * 3)).off + 1, none⟩ = some (.slice A196_1 ((rd_T53 l1 x5_1).f1).length c196_1) ∧ w'.cell? ⟨(ad196.add ((x5_1).toNat * 3)).block, (ad196.add ((x5_1).toNat * 3)).off + 2, none⟩ = some (.slice A196_2 ((rd_T53 l1 x5_1).f2).length c196_2) ∧ w'.cell? (ad195.add ((x5_1).toNat * 3)) = some (.int .i64 ((rd_T53 l0 x5_1).f0)) ∧ w'.cell? ⟨(ad195.add ((x5_1).toNat * 3)).block, (ad195.add ((x5_1).toNat * 3)).off + 1, none⟩ = some (.slice A195_1 ((rd_T53 l0 x5_1).f1).length c195_1) ∧ w'.cell? ⟨(ad195.add ((x5_1).toNat * 3)).block, (ad195.add ((x5_1).toNat * 3)).off + 2, none⟩ = some (.slice A195_2 ((rd_T53 l0 x5_1).f2).length c195_2) ∧ w'.cell? (ad196.add ((x5_1).toNat * 3)) = some (.int .i64 ((rd_T53 l1 x5_1).f0)) ∧ w'.cell? ⟨(ad196.add ((x5_1).toNat * 3)).block, (ad196.add ((x5_1).toNat * 3)).off + 1, none⟩ = some (.slice A196_1 ((rd_T53 l1 x5_1).f1).length c196_1) ∧ w'.cell? ⟨(ad196.add ((x5_1).toNat * 3)).block, (ad196.add ((x5_1).toNat * 3)).off + 2, none⟩ = some (.slice A196_2 ((rd_T53 l1 x5_1).f2).length c196_2)) (ds := []) #[false, false, false, false, false, false, false, false, false, false, false, false, false, false, false, false, false, false, false, false, false, false, false, false, false, false, false, false, false, false, false, false, false, false, false, false, false, false, false, false] (by kernel_rfl) rfl rfl ⟨((HB.out.cell (World.block_lt_of_cell? w _ hw195_0)).trans hw195_0), ((HB.out.cell (World.block_lt_of_cell? w _ hw195_1)).trans hw195_1), ((HB.out.cell (World.block_lt_of_cell? w _ hw195_2)).trans hw195_2), ((HB.out.cell (World.block_lt_of_cell? w _ hw196_0)).trans hw196_0), ((HB.out.cell (World.block_lt_of_cell? w _ hw196_1)).trans hw196_1), ((HB.out.cell (World.block_lt_of_cell? w _ hw196_2)).trans hw196_2), ((HB.out.cell (World.block_lt_of_cell? w _ hw197_0)).trans hw197_0), ((HB.out.cell (World.block_lt_of_cell? w _ hw197_1)).trans hw197_1), ((HB.out.cell (World.block_lt_of_cell? w _ hw197_2)).trans hw197_2), ((HB.out.cell (World.block_lt_of_cell? w _ hw198_0)).trans hw198_0), ((HB.out.cell (World.block_lt_of_cell? w _ hw198_1)).trans hw198_1), ((HB.out.cell (World.block_lt_of_cell? w _ hw198_2)).trans hw198_2), ((HB.out.cell (World.block_lt_of_cell? w _ hw199_0)).trans hw199_0), ((HB.out.cell (World.block_lt_of_cell? w _ hw199_1)).trans hw199_1), ((HB.out.cell (World.block_lt_of_cell? w _ hw199_2)).trans hw199_2), ((HB.out.cell (World.block_lt_of_cell? w _ hw200_0)).trans hw200_0), ((HB.out.cell (World.block_lt_of_cell? w _ hw200_1)).trans hw200_1), ((HB.out.cell (World.block_lt_of_cell? w _ hw200_2)).trans hw200_2)⟩ (fun hHeld => ?_); refine with_tabW substationref10_Same.tab6 substationref10_Same.bits6 (fun HT_ HW_ => ?_)
          generalize wr.drew = w11 at HB HR195_1 HR195_2 HR196_1 HR196_2 HR197_1 HR197_2 HR198_1 HR198_2 HR199_1 HR199_2 HR200_1 HR200_2 hx195_0 hx195_1 hx195_2 hx196_0 hx196_1 hx196_2 hx197_0 hx197_1 hx197_2 hx198_0 hx198_1 hx198_2 hx199_0 hx199_1 hx199_2 hx200_0 hx200_1 hx200_2 hHeld ⊢
          refine pure_ (i := 0) (N := some 17) (v := ?_) (a' := ?_) #[true, false, false, false, false, false, false, false, false, false, false, false, false, false, false, false, false, false, false, false, false, false, false, false, false, false, false, false, false, false, false, false, false, false, false, false, false, false, false, false] rfl rfl (any_of HT_.out (by kernel_rfl)) (fun _ _ _ h => h) (Or.inl ⟨by rfl, ?_⟩) ?_ ?_
          rotate_left
          ·intro w'
           go_simp
           with_reducible rfl
          rotate_left
          ·simp only [Act.put, List.setIfInBounds_toArray, List.set_cons_zero, List.set_cons_succ, i64_w, i32_w]
           rfl
          refine pure_ (i := 1) (N := some 18) (v := ?_) (a' := ?_) #[true, true, false, false, false, false, false, false, false, false, false, false, false, false, false, false, false, false, false, false, false, false, false, false, false, false, false, false, false, false, false, false, false, false, false, false, false, false, false, false] rfl rfl (any_of HT_.out (by kernel_rfl)) (fun _ _ _ h => h) (Or.inl ⟨by rfl, ?_⟩) ?_ ?_
          rotate_left
          ·intro w'
           go_simp
           with_reducible rfl
          rotate_left
          ·simp only [Act.put, List.setIfInBounds_toArray, List.set_cons_zero, List.set_cons_succ, i64_w, i32_w]
           rfl
          refine pure_ (i := 2) (N := some 19) (v := ?_) (a' := ?_) #[true, true, true, false, false, false, false, false, false, false, false, false, false, false, false, false, false, false, false, false, false, false, false, false, false, false, false, false, false, false, false, false, false, false, false, false, false, false, false, false] rfl rfl (any_of HT_.out (by kernel_rfl)) (fun _ _ _ h => h) (Or.inl ⟨by rfl, ?_⟩) ?_ ?_
          rotate_left
          ·intro w'
           go_simp
           with_reducible rfl
          rotate_left
          ·simp only [Act.put, List.setIfInBounds_toArray, List.set_cons_zero, List.set_cons_succ, i64_w, i32_w]
           rfl
          refine pure_ (i := 3) (N := some 20) (v := ?_) (a' := ?_) #[true, true, true, true, false, false, false, false, false, false, false, false, false, false, false, false, false, false, false, false, false, false, false, false, false, false, false, false, false, false, false, false, false, false, false, false, false, false, false, false] rfl rfl (any_of HT_.out (by kernel_rfl)) (fun _ _ _ h => h) (Or.inl ⟨by rfl, ?_⟩) ?_ ?_
          rotate_left
          ·intro w'
           go_simp
           with_reducible rfl
          rotate_left
          ·simp only [Act.put, List.setIfInBounds_toArray, List.set_cons_zero, List.set_cons_succ, i64_w, i32_w]
           rfl
          refine pure_ (i := 5) (N := some 22) (v := ?_) (a' := ?_) #[true, true, true, true, false, true, false, false, false, false, false, false, false, false, false, false, false, false, false, false, false, false, false, false, false, false, false, false, false, false, false, false, false, false, false, false, false, false, false, false] rfl rfl (any_of HT_.out (by kernel_rfl)) (fun _ _ _ h => h) (Or.inl ⟨by rfl, ?_⟩) ?_ ?_
          rotate_left
          ·intro w'
           go_simp
           with_reducible rfl
          rotate_left
          ·simp only [Act.put, List.setIfInBounds_toArray, List.set_cons_zero, List.set_cons_succ, i64_w, i32_w]
           rfl
          refine pure_ (i := 6) (N := some 23) (v := ?_) (a' := ?_) #[true, true, true, true, false, true, true, false, false, false, false, false, false, false, false, false, false, false, false, false, false, false, false, false, false, false, false, false, false, false, false, false, false, false, false, false, false, false, false, false] rfl rfl (any_of HT_.out (by kernel_rfl)) (fun _ _ _ h => h) (Or.inl ⟨by rfl, ?_⟩) ?_ ?_
          rotate_left
          ·intro w'
           go_simp
           with_reducible rfl
          rotate_left
          ·simp only [Act.put, List.setIfInBounds_toArray, List.set_cons_zero, List.set_cons_succ, i64_w, i32_w]
           rfl
          refine pure_ (i := 7) (N := some 24) (v := ?_) (a' := ?_) #[true, true, true, true, false, true, true, true, false, false, false, false, false, false, false, false, false, false, false, false, false, false, false, false, false, false, false, false, false, false, false, false, false, false, false, false, false, false, false, false] rfl rfl (any_of HT_.out (by kernel_rfl)) (fun _ _ _ h => h) (Or.inl ⟨by rfl, ?_⟩) ?_ ?_
          rotate_left
          ·intro w'
           go_simp
           with_reducible rfl
          rotate_left
          ·simp only [Act.put, List.setIfInBounds_toArray, List.set_cons_zero, List.set_cons_succ, i64_w, i32_w]
           rfl
          refine pure_ (i := 8) (N := some 25) (v := ?_) (a' := ?_) #[true, true, true, true, false, true, true, true, true, false, false, false, false, false, false, false, false, false, false, false, false, false, false, false, false, false, false, false, false, false, false, false, false, false, false, false, false, false, false, false] rfl rfl (any_of HT_.out (by kernel_rfl)) (fun _ _ _ h => h) (Or.inl ⟨by rfl, ?_⟩) ?_ ?_
          rotate_left
          ·intro w'
           go_simp
           with_reducible rfl
          rotate_left
          ·simp only [Act.put, List.setIfInBounds_toArray, List.set_cons_zero, List.set_cons_succ, i64_w, i32_w]
           rfl
          refine take_ (i := 4) (N := some 21) (v := ?_) (a' := ?_) #[true, true, true, true, true, true, true, true, true, false, false, false, false, false, false, false, false, false, false, false, false, false, false, false, false, false, false, false, false, false, false, false, false, false, false, false, false, false, false, false] rfl rfl (take_ofW HT_.out HW_.out (by kernel_rfl)) (fun _ _ _ h => h) (Or.inl ⟨by rfl, ?_⟩) hHeld ?_ ?_
          rotate_left
          ·rintro w' ⟨s0, s1, s2, s3, s4, s5, s6, s7, s8, s9, s10, s11, s12, s13, s14, s15, s16, s17⟩
           go_simp
           with_reducible rfl
          rotate_left
          ·simp only [Act.put, List.setIfInBounds_toArray, List.set_cons_zero, List.set_cons_succ, i64_w, i32_w]
           rfl
          refine take_ (i := 9) (N := some 26) (v := ?_) (a' := ?_) #[true, true, true, true, true, true, true, true, true, true, false, false, false, false, false, false, false, false, false, false, false, false, false, false, false, false, false, false, false, false, false, false, false, false, false, false, false, false, false, false] rfl rfl (take_ofW HT_.out HW_.out (by kernel_rfl)) (fun _ _ _ h => h) (Or.inl ⟨by rfl, ?_⟩) hHeld ?_ ?_
          rotate_left
          ·rintro w' ⟨s0, s1, s2, s3, s4, s5, s6, s7, s8, s9, s10, s11, s12, s13, s14, s15, s16, s17⟩
           go_simp
           with_reducible rfl
          rotate_left
          ·simp only [Act.put, List.setIfInBounds_toArray, List.set_cons_zero, List.set_cons_succ, i64_w, i32_w]
           rfl
          refine pure_ (i := 10) (N := some 27) (v := ?_) (a' := ?_) #[true, true, true, true, true, true, true, true, true, true, true, false, false, false, false, false, false, false, false, false, false, false, false, false, false, false, false, false, false, false, false, false, false, false, false, false, false, false, false, false] rfl rfl (any_of HT_.out (by kernel_rfl)) (fun _ _ _ h => h) (Or.inl ⟨by rfl, ?_⟩) ?_ ?_
          rotate_left
          ·intro w'
           go_simp
           with_reducible rfl
          rotate_left
          ·simp only [Act.put, List.setIfInBounds_toArray, List.set_cons_zero, List.set_cons_succ, i64_w, i32_w]
           rfl
          refine pure_ (i := 11) (N := some 28) (v := ?_) (a' := ?_) #[true, true, true, true, true, true, true, true, true, true, true, true, false, false, false, false, false, false, false, false, false, false, false, false, false, false, false, false, false, false, false, false, false, false, false, false, false, false, false, false] rfl rfl (any_of HT_.out (by kernel_rfl)) (fun _ _ _ h => h) (Or.inl ⟨by rfl, ?_⟩) ?_ ?_
          rotate_left
          ·intro w'
           go_simp
           with_reducible rfl
          rotate_left
          ·simp only [Act.put, List.setIfInBounds_toArray, List.set_cons_zero, List.set_cons_succ, i64_w, i32_w]
           rfl
          refine pure_ (i := 12) (N := some 29) (v := ?_) (a' := ?_) #[true, true, true, true, true, true, true, true, true, true, true, true, true, false, false, false, false, false, false, false, false, false, false, false, false, false, false, false, false, false, false, false, false, false, false, false, false, false, false, false] rfl rfl (any_of HT_.out (by kernel_rfl)) (fun _ _ _ h => h) (Or.inl ⟨by rfl, ?_⟩) ?_ ?_
          rotate_left
          ·intro w'
           go_simp
           with_reducible rfl
          rotate_left
          ·simp only [Act.put, List.setIfInBounds_toArray, List.set_cons_zero, List.set_cons_succ, i64_w, i32_w]
           rfl
          refine pure_ (i := 13) (N := some 30) (v := ?_) (a' := ?_) #[true, true, true, true, true, true, true, true, true, true, true, true, true, true, false, false, false, false, false, false, false, false, false, false, false, false, false, false, false, false, false, false, false, false, false, false, false, false, false, false] rfl rfl (any_of HT_.out (by kernel_rfl)) (fun _ _ _ h => h) (Or.inl ⟨by rfl, ?_⟩) ?_ ?_
          rotate_left
          ·intro w'
           go_simp
           with_reducible rfl
          rotate_left
          ·simp only [Act.put, List.setIfInBounds_toArray, List.set_cons_zero, List.set_cons_succ, i64_w, i32_w]
           rfl
          refine pure_ (i := 14) (N := some 31) (v := ?_) (a' := ?_) #[true, true, true, true, true, true, true, true, true, true, true, true, true, true, true, false, false, false, false, false, false, false, false, false, false, false, false, false, false, false, false, false, false, false, false, false, false, false, false, false] rfl rfl (any_of HT_.out (by kernel_rfl)) (fun _ _ _ h => h) (Or.inl ⟨by rfl, ?_⟩) ?_ ?_
          rotate_left
          ·intro w'
           go_simp
           with_reducible rfl
          rotate_left
          ·simp only [Act.put, List.setIfInBounds_toArray, List.set_cons_zero, List.set_cons_succ, i64_w, i32_w]
           rfl
          refine pure_ (i := 15) (N := some 32) (v := ?_) (a' := ?_) #[true, true, true, true, true, true, true, true, true, true, true, true, true, true, true, true, false, false, false, false, false, false, false, false, false, false, false, false, false, false, false, false, false, false, false, false, false, false, false, false] rfl rfl (any_of HT_.out (by kernel_rfl)) (fun _ _ _ h => h) (Or.inl ⟨by rfl, ?_⟩) ?_ ?_
          rotate_left
          ·intro w'
           go_simp
           with_reducible rfl
          rotate_left
          ·simp only [Act.put, List.setIfInBounds_toArray, List.set_cons_zero, List.set_cons_succ, i64_w, i32_w]
           rfl
          refine pure_ (i := 18) (N := some 35) (v := ?_) (a' := ?_) #[true, true, true, true, true, true, true, true, true, true, true, true, true, true, true, true, false, false, true, false, false, false, false, false, false, false, false, false, false, false, false, false, false, false, false, false, false, false, false, false] rfl rfl (any_of HT_.out (by kernel_rfl)) (fun _ _ _ h => h) (Or.inl ⟨by rfl, ?_⟩) ?_ ?_
          rotate_left
          ·intro w'
           go_simp
           with_reducible rfl
          rotate_left
          ·simp only [Act.put, List.setIfInBounds_toArray, List.set_cons_zero, List.set_cons_succ, i64_w, i32_w]
           rfl
          refine pure_ (i := 19) (N := some 36) (v := ?_) (a' := ?_) #[true, true, true, true, true, true, true, true, true, true, true, true, true, true, true, true, false, false, true, true, false, false, false, false, false, false, false, false, false, false, false, false, false, false, false, false, false, false, false, false] rfl rfl (any_of HT_.out (by kernel_rfl)) (fun _ _ _ h => h) (Or.inl ⟨by rfl, ?_⟩) ?_ ?_
          rotate_left
          ·intro w'
           go_simp
           with_reducible rfl
          rotate_left
          ·simp only [Act.put, List.setIfInBounds_toArray, List.set_cons_zero, List.set_cons_succ, i64_w, i32_w]
           rfl
          refine pure_ (i := 20) (N := some 37) (v := ?_) (a' := ?_) #[true, true, true, true, true, true, true, true, true, true, true, true, true, true, true, true, false, false, true, true, true, false, false, false, false, false, false, false, false, false, false, false, false, false, false, false, false, false, false, false] rfl rfl (any_of HT_.out (by kernel_rfl)) (fun _ _ _ h => h) (Or.inl ⟨by rfl, ?_⟩) ?_ ?_
          rotate_left
          ·intro w'
           go_simp
           with_reducible rfl
          rotate_left
          ·simp only [Act.put, List.setIfInBounds_toArray, List.set_cons_zero, List.set_cons_succ, i64_w, i32_w]
           rfl
          refine pure_ (i := 21) (N := some 38) (v := ?_) (a' := ?_) #[true, true, true, true, true, true, true, true, true, true, true, true, true, true, true, true, false, false, true, true, true, true, false, false, false, false, false, false, false, false, false, false, false, false, false, false, false, false, false, false] rfl rfl (any_of HT_.out (by kernel_rfl)) (fun _ _ _ h => h) (Or.inl ⟨by rfl, ?_⟩) ?_ ?_
          rotate_left
          ·intro w'
           go_simp
           with_reducible rfl
          rotate_left
          ·simp only [Act.put, List.setIfInBounds_toArray, List.set_cons_zero, List.set_cons_succ, i64_w, i32_w]
           rfl
          refine take_ (i := 16) (N := some 33) (v := ?_) (a' := ?_) #[true, true, true, true, true, true, true, true, true, true, true, true, true, true, true, true, true, false, true, true, true, true, false, false, false, false, false, false, false, false, false, false, false, false, false, false, false, false, false, false] rfl rfl (take_ofW HT_.out HW_.out (by kernel_rfl)) (fun _ _ _ h => h) (Or.inl ⟨by rfl, ?_⟩) hHeld ?_ ?_
          rotate_left
          ·rintro w' ⟨s0, s1, s2, s3, s4, s5, s6, s7, s8, s9, s10, s11, s12, s13, s14, s15, s16, s17⟩
           go_simp
           with_reducible rfl
          rotate_left
          ·simp only [Act.put, List.setIfInBounds_toArray, List.set_cons_zero, List.set_cons_succ, i64_w, i32_w]
           rfl
          refine take_ (i := 22) (N := some 39) (v := ?_) (a' := ?_) #[true, true, true, true, true, true, true, true, true, true, true, true, true, true, true, true, true, false, true, true, true, true, true, false, false, false, false, false, false, false, false, false, false, false, false, false, false, false, false, false] rfl rfl (take_ofW HT_.out HW_.out (by kernel_rfl)) (fun _ _ _ h => h) (Or.inl ⟨by rfl, ?_⟩) hHeld ?_ ?_
          rotate_left
          ·rintro w' ⟨s0, s1, s2, s3, s4, s5, s6, s7, s8, s9, s10, s11, s12, s13, s14, s15, s16, s17⟩
           go_simp
           with_reducible rfl
          rotate_left
          ·simp only [Act.put, List.setIfInBounds_toArray, List.set_cons_zero, List.set_cons_succ, i64_w, i32_w]
           rfl
          refine join_ (σ := Unit) 16 #[true, true, true, true, true, true, true, true, true, true, true, true, true, true, true, true, true, true, true, true, true, true, true, true, false, false, false, false, false, false, false, false, false, false, false, false, false, false, false, false] (fun s_ => [(34, .string (strOfNums ((rd_T53 l0 x5_1).f1))), (40, .string (strOfNums ((rd_T53 l1 x5_1).f1)))]) (fun s_ w' => (w'.cell? (ad195.add ((x5_1).toNat * 3)) = some (.int .i64 ((rd_T53 l0 x5_1).f0)) ∧ w'.cell? ⟨(ad195.add ((x5_1).toNat * 3)).block, (ad195.add ((x5_1).toNat * 3)).off + 1, none⟩ = some (.slice A195_1 ((rd_T53 l0 x5_1).f1).length c195_1) ∧ w'.cell? ⟨(ad195.add ((x5_1).toNat * 3)).block, (ad195.add ((x5_1).toNat * 3)).off + 2, none⟩ = some (.slice A195_2 ((rd_T53 l0 x5_1).f2).length c195_2) ∧ w'.cell? (ad196.add ((x5_1).toNat * 3)) = some (.int .i64 ((rd_T53 l1 x5_1).f0)) ∧ w'.cell? ⟨(ad196.add ((x5_1).toNat * 3)).block, (ad196.add ((x5_1).toNat * 3)).off + 1, none⟩ = some (.slice A196_1 ((rd_T53 l1 x5_1).f1).length c196_1) ∧ w'.cell? ⟨(ad196.add ((x5_1).toNat * 3)).block, (ad196.add ((x5_1).toNat * 3)).off + 2, none⟩ = some (.slice A196_2 ((rd_T53 l1 x5_1).f2).length c196_2) ∧ w'.cell? (ad195.add ((x5_1).toNat * 3)) = some (.int .i64 ((rd_T53 l0 x5_1).f0)) ∧ w'.cell? ⟨(ad195.add ((x5_1).toNat * 3)).block, (ad195.add ((x5_1).toNat * 3)).off + 1, none⟩ = some (.slice A195_1 ((rd_T53 l0 x5_1).f1).length c195_1) ∧ w'.cell? ⟨(ad195.add ((x5_1).toNat * 3)).block, (ad195.add ((x5_1).toNat * 3)).off + 2, none⟩ = some (.slice A195_2 ((rd_T53 l0 x5_1).f2).length c195_2) ∧ w'.cell? (ad196.add ((x5_1).toNat * 3)) = some (.int .i64 ((rd_T53 l1 x5_1).f0)) ∧ w'.cell? ⟨(ad196.add ((x5_1).toNat * 3)).block, (ad196.add ((x5_1).toNat * 3)).off + 1, none⟩ = some (.slice A196_1 ((rd_T53 l1 x5_1).f1).length c196_1) ∧ w'.cell? ⟨(ad196.add ((x5_1).toNat * 3)).block, (ad196.add ((x5_1).toNat * 3)).off + 2, none⟩ = some (.slice A196_2 ((rd_T53 l1 x5_1).f2).length c196_2) ∧ w'.cell? (ad195.add ((x5_1).toNat * 3)) = some (.int .i64 ((rd_T53 l0 x5_1).f0)) ∧ w'.cell? ⟨(ad195.add ((x5_1).toNat * 3)).block, (ad195.add ((x5_1).toNat * 3)).off + 1, none⟩ = some (.slice A195_1 ((rd_T53 l0 x5_1).f1).length c195_1) ∧ w'.cell? ⟨(ad195.add ((x5_1).toNat * 3)).block, (ad195.add ((x5_1).toNat * 3)).off + 2, none⟩ = some (.slice A195_2 ((rd_T53 l0 x5_1).f2).length c195_2) ∧ w'.cell? (ad196.add ((x5_1).toNat * 3)) = some (.int .i64 ((rd_T53 l1 x5_1).f0)) ∧ w'.cell? ⟨(ad196.add ((x5_1).toNat * 3)).block, (ad196.add ((x5_1).toNat * 3)).off + 1, none⟩ = some (.slice A196_1 ((rd_T53 l1 x5_1).f1).length c196_1) ∧ w'.cell? ⟨(ad196.add ((x5_1).toNat * 3)).block, (ad196.add ((x5_1).toNat * 3)).off + 2, none⟩ = some (.slice A196_2 ((rd_T53 l1 x5_1).f2).length c196_2)) ∧ (Below w.heap.size w w')) ?_ ?_
          rotate_left
          ·intro hCont
           refine two_ (i := 17) (j := 23) (Ni := some 34) (Nj := some 40) #[true, true, true, true, true, true, true, true, true, true, true, true, true, true, true, true, true, true, true, true, true, true, true, false, false, false, false, false, false, false, false, false, false, false, false, false, false, false, false, false] #[true, true, true, true, true, true, true, true, true, true, true, true, true, true, true, true, true, false, true, true, true, true, true, true, false, false, false, false, false, false, false, false, false, false, false, false, false, false, false, false] rfl rfl rfl rfl (two_of HT_.out (by kernel_rfl)) (by decide) (by decide) (fun K hK => ?_) (fun K hK => ?_)
           ·skip
            have hcv12 := Kd.C_string (P := Try.prog) (A := A195_1) (c := c195_1) Try.underlying22 Try.underlying5 Try.underlying9 (Kd.C_below HR197_1.out HB.out)
            refine value_ (w1 := ?_) (v := ?_) (by rfl) rfl ?_ ?_
            rotate_left 2
            ·go_simp
             constructor
             ·rfl
             ·rfl
            clear hcv12
            refine hK.out _ _ ⟨((HB.out.cell (World.block_lt_of_cell? w _ hw195_0)).trans hw195_0), ((HB.out.cell (World.block_lt_of_cell? w _ hw195_1)).trans hw195_1), ((HB.out.cell (World.block_lt_of_cell? w _ hw195_2)).trans hw195_2), ((HB.out.cell (World.block_lt_of_cell? w _ hw196_0)).trans hw196_0), ((HB.out.cell (World.block_lt_of_cell? w _ hw196_1)).trans hw196_1), ((HB.out.cell (World.block_lt_of_cell? w _ hw196_2)).trans hw196_2), ((HB.out.cell (World.block_lt_of_cell? w _ hw197_0)).trans hw197_0), ((HB.out.cell (World.block_lt_of_cell? w _ hw197_1)).trans hw197_1), ((HB.out.cell (World.block_lt_of_cell? w _ hw197_2)).trans hw197_2), ((HB.out.cell (World.block_lt_of_cell? w _ hw198_0)).trans hw198_0), ((HB.out.cell (World.block_lt_of_cell? w _ hw198_1)).trans hw198_1), ((HB.out.cell (World.block_lt_of_cell? w _ hw198_2)).trans hw198_2), ((HB.out.cell (World.block_lt_of_cell? w _ hw199_0)).trans hw199_0), ((HB.out.cell (World.block_lt_of_cell? w _ hw199_1)).trans hw199_1), ((HB.out.cell (World.block_lt_of_cell? w _ hw199_2)).trans hw199_2), ((HB.out.cell (World.block_lt_of_cell? w _ hw200_0)).trans hw200_0), ((HB.out.cell (World.block_lt_of_cell? w _ hw200_1)).trans hw200_1), ((HB.out.cell (World.block_lt_of_cell? w _ hw200_2)).trans hw200_2)⟩ (fun hHeld => ?_)
            clear hK K
            refine norm_ (a' := ?_) ?_ ?_
            rotate_left
            ·show Act.put _ (some 34) _ = _
             simp only [Act.put, List.setIfInBounds_toArray, List.set_cons_zero, List.set_cons_succ, i64_w, i32_w]
             rfl
            refine one_ (i := 23) (N := some 40) #[true, true, true, true, true, true, true, true, true, true, true, true, true, true, true, true, true, true, true, true, true, true, true, true, false, false, false, false, false, false, false, false, false, false, false, false, false, false, false, false] rfl rfl (one_of HT_.out (by kernel_rfl)) (by decide) (fun K hK => ?_)
            have hcv13 := Kd.C_string (P := Try.prog) (A := A196_1) (c := c196_1) Try.underlying22 Try.underlying5 Try.underlying9 (Kd.C_below HR198_1.out HB.out)
            refine value_ (w1 := ?_) (v := ?_) (by rfl) rfl ?_ ?_
            rotate_left 2
            ·go_simp
             constructor
             ·rfl
             ·rfl
            clear hcv13
            refine hK.out _ _ ⟨((HB.out.cell (World.block_lt_of_cell? w _ hw195_0)).trans hw195_0), ((HB.out.cell (World.block_lt_of_cell? w _ hw195_1)).trans hw195_1), ((HB.out.cell (World.block_lt_of_cell? w _ hw195_2)).trans hw195_2), ((HB.out.cell (World.block_lt_of_cell? w _ hw196_0)).trans hw196_0), ((HB.out.cell (World.block_lt_of_cell? w _ hw196_1)).trans hw196_1), ((HB.out.cell (World.block_lt_of_cell? w _ hw196_2)).trans hw196_2), ((HB.out.cell (World.block_lt_of_cell? w _ hw197_0)).trans hw197_0), ((HB.out.cell (World.block_lt_of_cell? w _ hw197_1)).trans hw197_1), ((HB.out.cell (World.block_lt_of_cell? w _ hw197_2)).trans hw197_2), ((HB.out.cell (World.block_lt_of_cell? w _ hw198_0)).trans hw198_0), ((HB.out.cell (World.block_lt_of_cell? w _ hw198_1)).trans hw198_1), ((HB.out.cell (World.block_lt_of_cell? w _ hw198_2)).trans hw198_2), ((HB.out.cell (World.block_lt_of_cell? w _ hw199_0)).trans hw199_0), ((HB.out.cell (World.block_lt_of_cell? w _ hw199_1)).trans hw199_1), ((HB.out.cell (World.block_lt_of_cell? w _ hw199_2)).trans hw199_2), ((HB.out.cell (World.block_lt_of_cell? w _ hw200_0)).trans hw200_0), ((HB.out.cell (World.block_lt_of_cell? w _ hw200_1)).trans hw200_1), ((HB.out.cell (World.block_lt_of_cell? w _ hw200_2)).trans hw200_2)⟩ (fun hHeld => ?_)
            clear hK K
            refine norm_ (a' := ?_) ?_ ?_
            rotate_left
            ·show Act.put _ (some 40) _ = _
             simp only [Act.put, List.setIfInBounds_toArray, List.set_cons_zero, List.set_cons_succ, i64_w, i32_w]
             rfl
            exact norm_ (by simp only [putAll, Act.put, List.setIfInBounds_toArray, List.set_cons_zero, List.set_cons_succ]) (hCont () _ ⟨hHeld, (by repeat (first | (with_reducible first | exact HB.out | apply below_alloc | apply pw_below_drewN | apply below_drew1) | exact HB.out))⟩)
           ·skip
            have hcv12 := Kd.C_string (P := Try.prog) (A := A196_1) (c := c196_1) Try.underlying22 Try.underlying5 Try.underlying9 (Kd.C_below HR198_1.out HB.out)
            refine value_ (w1 := ?_) (v := ?_) (by rfl) rfl ?_ ?_
            rotate_left 2
            ·go_simp
             constructor
             ·rfl
             ·rfl
            clear hcv12
            refine hK.out _ _ ⟨((HB.out.cell (World.block_lt_of_cell? w _ hw195_0)).trans hw195_0), ((HB.out.cell (World.block_lt_of_cell? w _ hw195_1)).trans hw195_1), ((HB.out.cell (World.block_lt_of_cell? w _ hw195_2)).trans hw195_2), ((HB.out.cell (World.block_lt_of_cell? w _ hw196_0)).trans hw196_0), ((HB.out.cell (World.block_lt_of_cell? w _ hw196_1)).trans hw196_1), ((HB.out.cell (World.block_lt_of_cell? w _ hw196_2)).trans hw196_2), ((HB.out.cell (World.block_lt_of_cell? w _ hw197_0)).trans hw197_0), ((HB.out.cell (World.block_lt_of_cell? w _ hw197_1)).trans hw197_1), ((HB.out.cell (World.block_lt_of_cell? w _ hw197_2)).trans hw197_2), ((HB.out.cell (World.block_lt_of_cell? w _ hw198_0)).trans hw198_0), ((HB.out.cell (World.block_lt_of_cell? w _ hw198_1)).trans hw198_1), ((HB.out.cell (World.block_lt_of_cell? w _ hw198_2)).trans hw198_2), ((HB.out.cell (World.block_lt_of_cell? w _ hw199_0)).trans hw199_0), ((HB.out.cell (World.block_lt_of_cell? w _ hw199_1)).trans hw199_1), ((HB.out.cell (World.block_lt_of_cell? w _ hw199_2)).trans hw199_2), ((HB.out.cell (World.block_lt_of_cell? w _ hw200_0)).trans hw200_0), ((HB.out.cell (World.block_lt_of_cell? w _ hw200_1)).trans hw200_1), ((HB.out.cell (World.block_lt_of_cell? w _ hw200_2)).trans hw200_2)⟩ (fun hHeld => ?_)
            clear hK K
            refine norm_ (a' := ?_) ?_ ?_
            rotate_left
            ·show Act.put _ (some 40) _ = _
             simp only [Act.put, List.setIfInBounds_toArray, List.set_cons_zero, List.set_cons_succ, i64_w, i32_w]
             rfl
            refine one_ (i := 17) (N := some 34) #[true, true, true, true, true, true, true, true, true, true, true, true, true, true, true, true, true, true, true, true, true, true, true, true, false, false, false, false, false, false, false, false, false, false, false, false, false, false, false, false] rfl rfl (one_of HT_.out (by kernel_rfl)) (by decide) (fun K hK => ?_)
            have hcv13 := Kd.C_string (P := Try.prog) (A := A195_1) (c := c195_1) Try.underlying22 Try.underlying5 Try.underlying9 (Kd.C_below HR197_1.out HB.out)
            refine value_ (w1 := ?_) (v := ?_) (by rfl) rfl ?_ ?_
            rotate_left 2
            ·go_simp
             constructor
             ·rfl
             ·rfl
            clear hcv13
            refine hK.out _ _ ⟨((HB.out.cell (World.block_lt_of_cell? w _ hw195_0)).trans hw195_0), ((HB.out.cell (World.block_lt_of_cell? w _ hw195_1)).trans hw195_1), ((HB.out.cell (World.block_lt_of_cell? w _ hw195_2)).trans hw195_2), ((HB.out.cell (World.block_lt_of_cell? w _ hw196_0)).trans hw196_0), ((HB.out.cell (World.block_lt_of_cell? w _ hw196_1)).trans hw196_1), ((HB.out.cell (World.block_lt_of_cell? w _ hw196_2)).trans hw196_2), ((HB.out.cell (World.block_lt_of_cell? w _ hw197_0)).trans hw197_0), ((HB.out.cell (World.block_lt_of_cell? w _ hw197_1)).trans hw197_1), ((HB.out.cell (World.block_lt_of_cell? w _ hw197_2)).trans hw197_2), ((HB.out.cell (World.block_lt_of_cell? w _ hw198_0)).trans hw198_0), ((HB.out.cell (World.block_lt_of_cell? w _ hw198_1)).trans hw198_1), ((HB.out.cell (World.block_lt_of_cell? w _ hw198_2)).trans hw198_2), ((HB.out.cell (World.block_lt_of_cell? w _ hw199_0)).trans hw199_0), ((HB.out.cell (World.block_lt_of_cell? w _ hw199_1)).trans hw199_1), ((HB.out.cell (World.block_lt_of_cell? w _ hw199_2)).trans hw199_2), ((HB.out.cell (World.block_lt_of_cell? w _ hw200_0)).trans hw200_0), ((HB.out.cell (World.block_lt_of_cell? w _ hw200_1)).trans hw200_1), ((HB.out.cell (World.block_lt_of_cell? w _ hw200_2)).trans hw200_2)⟩ (fun hHeld => ?_)
            clear hK K
            refine norm_ (a' := ?_) ?_ ?_
            rotate_left
            ·show Act.put _ (some 34) _ = _
             simp only [Act.put, List.setIfInBounds_toArray, List.set_cons_zero, List.set_cons_succ, i64_w, i32_w]
             rfl
            exact norm_ (by simp only [putAll, Act.put, List.setIfInBounds_toArray, List.set_cons_zero, List.set_cons_succ]) (hCont () _ ⟨hHeld, (by repeat (first | (with_reducible first | exact HB.out | apply below_alloc | apply pw_below_drewN | apply below_drew1) | exact HB.out))⟩)
          rintro _ w14 ⟨hS_, h0_⟩
          have n0_ : Aside0 (Below w.heap.size w w14) := ⟨h0_⟩
          clear HB
          clear h0_
          have HB := n0_
          clear n0_
          have hHeld : w14.cell? (ad195.add ((x5_1).toNat * 3)) = some (.int .i64 ((rd_T53 l0 x5_1).f0)) ∧ w14.cell? ⟨(ad195.add ((x5_1).toNat * 3)).block, (ad195.add ((x5_1).toNat * 3)).off + 1, none⟩ = some (.slice A195_1 ((rd_T53 l0 x5_1).f1).length c195_1) ∧ w14.cell? ⟨(ad195.add ((x5_1).toNat * 3)).block, (ad195.add ((x5_1).toNat * 3)).off + 2, none⟩ = some (.slice A195_2 ((rd_T53 l0 x5_1).f2).length c195_2) ∧ w14.cell? (ad196.add ((x5_1).toNat * 3)) = some (.int .i64 ((rd_T53 l1 x5_1).f0)) ∧ w14.cell? ⟨(ad196.add ((x5_1).toNat * 3)).block, (ad196.add ((x5_1).toNat * 3)).off + 1, none⟩ = some (.slice A196_1 ((rd_T53 l1 x5_1).f1).length c196_1) ∧ w14.cell? ⟨(ad196.add ((x5_1).toNat * 3)).block, (ad196.add ((x5_1).toNat * 3)).off + 2, none⟩ = some (.slice A196_2 ((rd_T53 l1 x5_1).f2).length c196_2) ∧ w14.cell? (ad195.add ((x5_1).toNat * 3)) = some (.int .i64 ((rd_T53 l0 x5_1).f0)) ∧ w14.cell? ⟨(ad195.add ((x5_1).toNat * 3)).block, (ad195.add ((x5_1).toNat * 3)).off + 1, none⟩ = some (.slice A195_1 ((rd_T53 l0 x5_1).f1).length c195_1) ∧ w14.cell? ⟨(ad195.add ((x5_1).toNat * 3)).block, (ad195.add ((x5_1).toNat * 3)).off + 2, none⟩ = some (.slice A195_2 ((rd_T53 l0 x5_1).f2).length c195_2) ∧ w14.cell? (ad196.add ((x5_1).toNat * 3)) = some (.int .i64 ((rd_T53 l1 x5_1).f0)) ∧ w14.cell? ⟨(ad196.add ((x5_1).toNat * 3)).block, (ad196.add ((x5_1).toNat * 3)).off + 1, none⟩ = some (.slice A196_1 ((rd_T53 l1 x5_1).f1).length c196_1) ∧ w14.cell? ⟨(ad196.add ((x5_1).toNat * 3)).block, (ad196.add ((x5_1).toNat * 3)).off + 2, none⟩ = some (.slice A196_2 ((rd_T53 l1 x5_1).f2).length c196_2) ∧ w14.cell? (ad195.add ((x5_1).toNat * 3)) = some (.int .i64 ((rd_T53 l0 x5_1).f0)) ∧ w14.cell? ⟨(ad195.add ((x5_1).toNat * 3)).block, (ad195.add ((x5_1).toNat * 3)).off + 1, none⟩ = some (.slice A195_1 ((rd_T53 l0 x5_1).f1).length c195_1) ∧ w14.cell? ⟨(ad195.add ((x5_1).toNat * 3)).block, (ad195.add ((x5_1).toNat * 3)).off + 2, none⟩ = some (.slice A195_2 ((rd_T53 l0 x5_1).f2).length c195_2) ∧ w14.cell? (ad196.add ((x5_1).toNat * 3)) = some (.int .i64 ((rd_T53 l1 x5_1).f0)) ∧ w14.cell? ⟨(ad196.add ((x5_1).toNat * 3)).block, (ad196.add ((x5_1).toNat * 3)).off + 1, none⟩ = some (.slice A196_1 ((rd_T53 l1 x5_1).f1).length c196_1) ∧ w14.cell? ⟨(ad196.add ((x5_1).toNat * 3)).block, (ad196.add ((x5_1).toNat * 3)).off + 2, none⟩ = some (.slice A196_2 ((rd_T53 l1 x5_1).f2).length c196_2) := hS_
          refine norm_ (a' := ?_) ?_ ?_
          rotate_left
          ·simp only [putAll, Act.put, List.setIfInBounds_toArray, List.set_cons_zero, List.set_cons_succ]
           rfl
          refine pure_ (i := 24) (N := some 41) (v := ?_) (a' := ?_) #[true, true, true, true, true, true, true, true, true, true, true, true, true, true, true, true, true, true, true, true, true, true, true, true, true, false, false, false, false, false, false, false, false, false, false, false, false, false, false, false] rfl rfl (any_of HT_.out (by kernel_rfl)) (fun _ _ _ h => h) (Or.inl ⟨by rfl, ?_⟩) ?_ ?_
          rotate_left
          ·intro w'
           go_simp
           with_reducible rfl
          rotate_left
          ·simp only [Act.put, List.setIfInBounds_toArray, List.set_cons_zero, List.set_cons_succ, i64_w, i32_w]
           rfl
          refine pure_ (i := 25) (N := some 42) (v := ?_) (a' := ?_) #[true, true, true, true, true, true, true, true, true, true, true, true, true, true, true, true, true, true, true, true, true, true, true, true, true, true, false, false, false, false, false, false, false, false, false, false, false, false, false, false] rfl rfl (any_of HT_.out (by kernel_rfl)) (fun _ _ _ h => h) (Or.inl ⟨by rfl, ?_⟩) ?_ ?_
          rotate_left
          ·intro w'
           go_simp
           with_reducible rfl
          rotate_left
          ·simp only [Act.put, List.setIfInBounds_toArray, List.set_cons_zero, List.set_cons_succ, i64_w, i32_w]
           rfl
          refine pure_ (i := 26) (N := some 43) (v := ?_) (a' := ?_) #[true, true, true, true, true, true, true, true, true, true, true, true, true, true, true, true, true, true, true, true, true, true, true, true, true, true, true, false, false, false, false, false, false, false, false, false, false, false, false, false] rfl rfl (any_of HT_.out (by kernel_rfl)) (fun _ _ _ h => h) (Or.inl ⟨by rfl, ?_⟩) ?_ ?_
          rotate_left
          ·intro w'
           go_simp
           with_reducible rfl
          rotate_left
          ·simp only [Act.put, List.setIfInBounds_toArray, List.set_cons_zero, List.set_cons_succ, i64_w, i32_w]
           rfl
          refine pure_ (i := 27) (N := some 44) (v := ?_) (a' := ?_) #[true, true, true, true, true, true, true, true, true, true, true, true, true, true, true, true, true, true, true, true, true, true, true, true, true, true, true, true, false, false, false, false, false, false, false, false, false, false, false, false] rfl rfl (any_of HT_.out (by kernel_rfl)) (fun _ _ _ h => h) (Or.inl ⟨by rfl, ?_⟩) ?_ ?_
          rotate_left
          ·intro w'
           go_simp
           with_reducible rfl
          rotate_left
          ·simp only [Act.put, List.setIfInBounds_toArray, List.set_cons_zero, List.set_cons_succ, i64_w, i32_w]
           rfl
          refine pure_ (i := 28) (N := some 45) (v := ?_) (a' := ?_) #[true, true, true, true, true, true, true, true, true, true, true, true, true, true, true, true, true, true, true, true, true, true, true, true, true, true, true, true, true, false, false, false, false, false, false, false, false, false, false, false] rfl rfl (any_of HT_.out (by kernel_rfl)) (fun _ _ _ h => h) (Or.inl ⟨by rfl, ?_⟩) ?_ ?_
          rotate_left
          ·intro w'
           go_simp
           with_reducible rfl
          rotate_left
          ·simp only [Act.put, List.setIfInBounds_toArray, List.set_cons_zero, List.set_cons_succ, i64_w, i32_w]
           rfl
          refine pure_ (i := 29) (N := some 46) (v := ?_) (a' := ?_) #[true, true, true, true, true, true, true, true, true, true, true, true, true, true, true, true, true, true, true, true, true, true, true, true, true, true, true, true, true, true, false, false, false, false, false, false, false, false, false, false] rfl rfl (any_of HT_.out (by kernel_rfl)) (fun _ _ _ h => h) (Or.inl ⟨by rfl, ?_⟩) ?_ ?_
          rotate_left
          ·intro w'
           go_simp
           with_reducible rfl
          rotate_left
          ·simp only [Act.put, List.setIfInBounds_toArray, List.set_cons_zero, List.set_cons_succ, i64_w, i32_w]
           rfl
          refine pure_ (i := 30) (N := some 47) (v := ?_) (a' := ?_) #[true, true, true, true, true, true, true, true, true, true, true, true, true, true, true, true, true, true, true, true, true, true, true, true, true, true, true, true, true, true, true, false, false, false, false, false, false, false, false, false] rfl rfl (any_of HT_.out (by kernel_rfl)) (fun _ _ _ h => h) (Or.inl ⟨by rfl, ?_⟩) ?_ ?_
          rotate_left
          ·intro w'
           go_simp
           with_reducible rfl
          rotate_left
          ·simp only [Act.put, List.setIfInBounds_toArray, List.set_cons_zero, List.set_cons_succ, i64_w, i32_w]
           rfl
          refine pure_ (i := 32) (N := some 49) (v := ?_) (a' := ?_) #[true, true, true, true, true, true, true, true, true, true, true, true, true, true, true, true, true, true, true, true, true, true, true, true, true, true, true, true, true, true, true, false, true, false, false, false, false, false, false, false] rfl rfl (any_of HT_.out (by kernel_rfl)) (fun _ _ _ h => h) (Or.inl ⟨by rfl, ?_⟩) ?_ ?_
          rotate_left
          ·intro w'
           go_simp
           with_reducible rfl
          rotate_left
          ·simp only [Act.put, List.setIfInBounds_toArray, List.set_cons_zero, List.set_cons_succ, i64_w, i32_w]
           rfl
          refine pure_ (i := 33) (N := some 50) (v := ?_) (a' := ?_) #[true, true, true, true, true, true, true, true, true, true, true, true, true, true, true, true, true, true, true, true, true, true, true, true, true, true, true, true, true, true, true, false, true, true, false, false, false, false, false, false] rfl rfl (any_of HT_.out (by kernel_rfl)) (fun _ _ _ h => h) (Or.inl ⟨by rfl, ?_⟩) ?_ ?_
          rotate_left
          ·intro w'
           go_simp
           with_reducible rfl
          rotate_left
          ·simp only [Act.put, List.setIfInBounds_toArray, List.set_cons_zero, List.set_cons_succ, i64_w, i32_w]
           rfl
          refine pure_ (i := 34) (N := some 51) (v := ?_) (a' := ?_) #[true, true, true, true, true, true, true, true, true, true, true, true, true, true, true, true, true, true, true, true, true, true, true, true, true, true, true, true, true, true, true, false, true, true, true, false, false, false, false, false] rfl rfl (any_of HT_.out (by kernel_rfl)) (fun _ _ _ h => h) (Or.inl ⟨by rfl, ?_⟩) ?_ ?_
          rotate_left
          ·intro w'
           go_simp
           with_reducible rfl
          rotate_left
          ·simp only [Act.put, List.setIfInBounds_toArray, List.set_cons_zero, List.set_cons_succ, i64_w, i32_w]
           rfl
          refine pure_ (i := 35) (N := some 52) (v := ?_) (a' := ?_) #[true, true, true, true, true, true, true, true, true, true, true, true, true, true, true, true, true, true, true, true, true, true, true, true, true, true, true, true, true, true, true, false, true, true, true, true, false, false, false, false] rfl rfl (any_of HT_.out (by kernel_rfl)) (fun _ _ _ h => h) (Or.inl ⟨by rfl, ?_⟩) ?_ ?_
          rotate_left
          ·intro w'
           go_simp
           with_reducible rfl
          rotate_left
          ·simp only [Act.put, List.setIfInBounds_toArray, List.set_cons_zero, List.set_cons_succ, i64_w, i32_w]
           rfl
          refine take_ (i := 31) (N := some 48) (v := ?_) (a' := ?_) #[true, true, true, true, true, true, true, true, true, true, true, true, true, true, true, true, true, true, true, true, true, true, true, true, true, true, true, true, true, true, true, true, true, true, true, true, false, false, false, false] rfl rfl (take_ofW HT_.out HW_.out (by kernel_rfl)) (fun _ _ _ h => h) (Or.inl ⟨by rfl, ?_⟩) hHeld ?_ ?_
          rotate_left
          ·rintro w' ⟨s0, s1, s2, s3, s4, s5, s6, s7, s8, s9, s10, s11, s12, s13, s14, s15, s16, s17⟩
           go_simp
           with_reducible rfl
          rotate_left
          ·simp only [Act.put, List.setIfInBounds_toArray, List.set_cons_zero, List.set_cons_succ, i64_w, i32_w]
           rfl
          refine take_ (i := 36) (N := some 53) (v := ?_) (a' := ?_) #[true, true, true, true, true, true, true, true, true, true, true, true, true, true, true, true, true, true, true, true, true, true, true, true, true, true, true, true, true, true, true, true, true, true, true, true, true, false, false, false] rfl rfl (take_ofW HT_.out HW_.out (by kernel_rfl)) (fun _ _ _ h => h) (Or.inl ⟨by rfl, ?_⟩) hHeld ?_ ?_
          rotate_left
          ·rintro w' ⟨s0, s1, s2, s3, s4, s5, s6, s7, s8, s9, s10, s11, s12, s13, s14, s15, s16, s17⟩
           go_simp
           with_reducible rfl
          rotate_left
          ·simp only [Act.put, List.setIfInBounds_toArray, List.set_cons_zero, List.set_cons_succ, i64_w, i32_w]
           rfl
          refine one_ (i := 37) (N := some 54) #[true, true, true, true, true, true, true, true, true, true, true, true, true, true, true, true, true, true, true, true, true, true, true, true, true, true, true, true, true, true, true, true, true, true, true, true, true, true, false, false] rfl rfl (one_of HT_.out (by kernel_rfl)) (by decide) (fun K hK => ?_)
          refine goes_ Try.func20 (by kernel_rfl) rfl #[.slice A195_2 ((rd_T53 l0 x5_1).f2).length c195_2, .slice A196_2 ((rd_T53 l1 x5_1).f2).length c196_2] (by rfl) rfl rfl (by (try simp only [List.map_toArray, List.map_cons, List.map_nil]); first | done | rfl | (simp only [List.length_drop, List.length_take]; rfl)) ?_
          with_reducible refine (ih k1 (by have := HK1.out; omega) _ _ ((rd_T53 l0 x5_1).f2) _ _ ((rd_T53 l1 x5_1).f2) true _ ?side1 ?side2 ?side3 ?side4 A9.out).mono ?_
          (case side1 => repeat (first | exact (Kd.C_below HR199_2.out HB.out) | (with_reducible refine Kd.C_alloc ?_ _) | (with_reducible refine Kd.C_drewN ?_ _) | (with_reducible refine Kd.C_drew ?_)))
          (case side2 => exact HC199_2.out)
          (case side3 => repeat (first | exact (Kd.C_below HR200_2.out HB.out) | (with_reducible refine Kd.C_alloc ?_ _) | (with_reducible refine Kd.C_drewN ?_ _) | (with_reducible refine Kd.C_drew ?_)))
          (case side4 => exact HC200_2.out)
          rintro e w15 ⟨rfl, hb⟩
          refine ⟨_, rfl, ?_⟩
          have n0_ := Aside0.mk (below_step (by repeat (first | (with_reducible first | exact HB.out | apply below_alloc | apply pw_below_drewN | apply below_drew1) | exact HB.out)) hb)
          clear HB
          have HB := n0_
          clear n0_
          (try clear hb)
          (try clear hb2)
          (try clear hk)
          (try clear hi)
          refine hK.out _ _ ⟨((HB.out.cell (World.block_lt_of_cell? w _ hw195_0)).trans hw195_0), ((HB.out.cell (World.block_lt_of_cell? w _ hw195_1)).trans hw195_1), ((HB.out.cell (World.block_lt_of_cell? w _ hw195_2)).trans hw195_2), ((HB.out.cell (World.block_lt_of_cell? w _ hw196_0)).trans hw196_0), ((HB.out.cell (World.block_lt_of_cell? w _ hw196_1)).trans hw196_1), ((HB.out.cell (World.block_lt_of_cell? w _ hw196_2)).trans hw196_2), ((HB.out.cell (World.block_lt_of_cell? w _ hw197_0)).trans hw197_0), ((HB.out.cell (World.block_lt_of_cell? w _ hw197_1)).trans hw197_1), ((HB.out.cell (World.block_lt_of_cell? w _ hw197_2)).trans hw197_2), ((HB.out.cell (World.block_lt_of_cell? w _ hw198_0)).trans hw198_0), ((HB.out.cell (World.block_lt_of_cell? w _ hw198_1)).trans hw198_1), ((HB.out.cell (World.block_lt_of_cell? w _ hw198_2)).trans hw198_2), ((HB.out.cell (World.block_lt_of_cell? w _ hw199_0)).trans hw199_0), ((HB.out.cell (World.block_lt_of_cell? w _ hw199_1)).trans hw199_1), ((HB.out.cell (World.block_lt_of_cell? w _ hw199_2)).trans hw199_2), ((HB.out.cell (World.block_lt_of_cell? w _ hw200_0)).trans hw200_0), ((HB.out.cell (World.block_lt_of_cell? w _ hw200_1)).trans hw200_1), ((HB.out.cell (World.block_lt_of_cell? w _ hw200_2)).trans hw200_2)⟩ (fun hHeld => ?_)
          clear hK K
          refine norm_ (a' := ?_) ?_ ?_
          rotate_left
          ·show Act.put _ (some 54) _ = _
           simp only [Act.put, List.setIfInBounds_toArray, List.set_cons_zero, List.set_cons_succ, i64_w, i32_w]
           rfl
          refine pure_ (i := 38) (N := some 55) (v := ?_) (a' := ?_) #[true, true, true, true, true, true, true, true, true, true, true, true, true, true, true, true, true, true, true, true, true, true, true, true, true, true, true, true, true, true, true, true, true, true, true, true, true, true, true, false] rfl rfl (any_of HT_.out (by kernel_rfl)) (fun _ _ _ h => h) (Or.inl ⟨by rfl, ?_⟩) ?_ ?_
          rotate_left
          ·intro w'
           go_simp
           with_reducible rfl
          rotate_left
          ·simp only [Act.put, List.setIfInBounds_toArray, List.set_cons_zero, List.set_cons_succ, i64_w, i32_w]
           rfl
          refine pure_ (i := 39) (N := some 56) (v := ?_) (a' := ?_) #[true, true, true, true, true, true, true, true, true, true, true, true, true, true, true, true, true, true, true, true, true, true, true, true, true, true, true, true, true, true, true, true, true, true, true, true, true, true, true, true] rfl rfl (any_of HT_.out (by kernel_rfl)) (fun _ _ _ h => h) (Or.inl ⟨by rfl, ?_⟩) ?_ ?_
          rotate_left
          ·intro w'
           go_simp
           with_reducible rfl
          rotate_left
          ·simp only [Act.put, List.setIfInBounds_toArray, List.set_cons_zero, List.set_cons_succ, i64_w, i32_w]
           rfl
          refine done_ (done_of HT_.out (by kernel_rfl)) ?_
          try go_wp2
          go_roundg k1
          case measure => have := HK1.out; omega
          case rel => exact ⟨(wrap64 (x5_1 + 1)), (by first | rfl | (simp; done) | (simp [*]; done)), H', ⟨by have := HK1.out; omega⟩, ⟨by repeat (first | (with_reducible first | exact HB.out | apply below_alloc | apply pw_below_drewN | apply below_drew1) | exact HB.out)⟩⟩
         ·replace c10 := Bool.eq_false_iff.mpr c10
          subst c10
          have H1 : (some false) = some r := by rw [if_neg (show ¬ (false = true) by decide)] at H; exact H
          clear H
          have H := H1
          clear H1
          obtain rfl := Option.some.inj H
          try go_wp2
          have n0_ := Aside0.mk (below_drew1 HB.out)
          clear HB
          have HB := n0_
          clear n0_
          have p195 : 0 ≤ (x5_1 : Int) := of_decide_eq_true (by first | (with_reducible assumption) | assumption)
          have q195 : x5_1 < (l0.length : Int) := of_decide_eq_true (by first | (with_reducible assumption) | assumption)
          obtain ⟨ad195, A195_1, c195_1, A195_2, c195_2, e195, hx195_0, hx195_1, hx195_2, hl195_1, hi195_1, hl195_2, hi195_2⟩ := at_T53 HR0.out x5_1 p195 q195
          have hw195_2 := hx195_2
          have hw195_1 := hx195_1
          have hw195_0 := hx195_0
          cases e195
          replace hx195_0 := (HB.out.cell (World.block_lt_of_cell? w _ hx195_0)).trans hx195_0
          replace hx195_1 := (HB.out.cell (World.block_lt_of_cell? w _ hx195_1)).trans hx195_1
          replace hx195_2 := (HB.out.cell (World.block_lt_of_cell? w _ hx195_2)).trans hx195_2
          have HR195_1 := Aside0.mk hi195_1
          have HC195_1 := Aside0.mk hl195_1
          clear hi195_1 hl195_1
          have HR195_2 := Aside0.mk hi195_2
          have HC195_2 := Aside0.mk hl195_2
          clear hi195_2 hl195_2
          replace p195 := eq_true p195
          replace q195 := eq_true q195
          have p196 : 0 ≤ (x5_1 : Int) := of_decide_eq_true (by first | (with_reducible assumption) | assumption)
          have q196 : x5_1 < (l1.length : Int) := of_decide_eq_true (by first | (with_reducible assumption) | assumption)
          obtain ⟨ad196, A196_1, c196_1, A196_2, c196_2, e196, hx196_0, hx196_1, hx196_2, hl196_1, hi196_1, hl196_2, hi196_2⟩ := at_T53 HR1.out x5_1 p196 q196
          have hw196_2 := hx196_2
          have hw196_1 := hx196_1
          have hw196_0 := hx196_0
          cases e196
          replace hx196_0 := (HB.out.cell (World.block_lt_of_cell? w _ hx196_0)).trans hx196_0
          replace hx196_1 := (HB.out.cell (World.block_lt_of_cell? w _ hx196_1)).trans hx196_1
          replace hx196_2 := (HB.out.cell (World.block_lt_of_cell? w _ hx196_2)).trans hx196_2
          have HR196_1 := Aside0.mk hi196_1
          have HC196_1 := Aside0.mk hl196_1
          clear hi196_1 hl196_1
          have HR196_2 := Aside0.mk hi196_2
          have HC196_2 := Aside0.mk hl196_2
          clear hi196_2 hl196_2
          replace p196 := eq_true p196
          replace q196 := eq_true q196
          have p197 : 0 ≤ (x5_1 : Int) := of_decide_eq_true (by first | (with_reducible assumption) | assumption)
          have q197 : x5_1 < (l0.length : Int) := of_decide_eq_true (by first | (with_reducible assumption) | assumption)
          obtain ⟨ad197, A197_1, c197_1, A197_2, c197_2, e197, hx197_0, hx197_1, hx197_2, hl197_1, hi197_1, hl197_2, hi197_2⟩ := at_T53 HR0.out x5_1 p197 q197
          have hw197_2 := hx197_2
          have hw197_1 := hx197_1
          have hw197_0 := hx197_0
          obtain rfl : ad195 = ad197 := (by injection e197)
          replace hx197_0 := (HB.out.cell (World.block_lt_of_cell? w _ hx197_0)).trans hx197_0
          replace hx197_1 := (HB.out.cell (World.block_lt_of_cell? w _ hx197_1)).trans hx197_1
          replace hx197_2 := (HB.out.cell (World.block_lt_of_cell? w _ hx197_2)).trans hx197_2
          have HR197_1 := Aside0.mk hi197_1
          have HC197_1 := Aside0.mk hl197_1
          clear hi197_1 hl197_1
          have HR197_2 := Aside0.mk hi197_2
          have HC197_2 := Aside0.mk hl197_2
          clear hi197_2 hl197_2
          replace p197 := eq_true p197
          replace q197 := eq_true q197
          have ea_ := Option.some.inj (hx195_1.symm.trans hx197_1)
          injection ea_ with ea_ en_ ec_
          subst ea_
          subst ec_
          clear en_
          have ea_ := Option.some.inj (hx195_2.symm.trans hx197_2)
          injection ea_ with ea_ en_ ec_
          subst ea_
          subst ec_
          clear en_
          have p198 : 0 ≤ (x5_1 : Int) := of_decide_eq_true (by first | (with_reducible assumption) | assumption)
          have q198 : x5_1 < (l1.length : Int) := of_decide_eq_true (by first | (with_reducible assumption) | assumption)
          obtain ⟨ad198, A198_1, c198_1, A198_2, c198_2, e198, hx198_0, hx198_1, hx198_2, hl198_1, hi198_1, hl198_2, hi198_2⟩ := at_T53 HR1.out x5_1 p198 q198
          have hw198_2 := hx198_2
          have hw198_1 := hx198_1
          have hw198_0 := hx198_0
          obtain rfl : ad196 = ad198 := (by injection e198)
          replace hx198_0 := (HB.out.cell (World.block_lt_of_cell? w _ hx198_0)).trans hx198_0
          replace hx198_1 := (HB.out.cell (World.block_lt_of_cell? w _ hx198_1)).trans hx198_1
          replace hx198_2 := (HB.out.cell (World.block_lt_of_cell? w _ hx198_2)).trans hx198_2
          have HR198_1 := Aside0.mk hi198_1
          have HC198_1 := Aside0.mk hl198_1
          clear hi198_1 hl198_1
          have HR198_2 := Aside0.mk hi198_2
          have HC198_2 := Aside0.mk hl198_2
          clear hi198_2 hl198_2
          replace p198 := eq_true p198
          replace q198 := eq_true q198
          have ea_ := Option.some.inj (hx196_1.symm.trans hx198_1)
          injection ea_ with ea_ en_ ec_
          subst ea_
          subst ec_
          clear en_
          have ea_ := Option.some.inj (hx196_2.symm.trans hx198_2)
          injection ea_ with ea_ en_ ec_
          subst ea_
          subst ec_
          clear en_
          have p199 : 0 ≤ (x5_1 : Int) := of_decide_eq_true (by first | (with_reducible assumption) | assumption)
          have q199 : x5_1 < (l0.length : Int) := of_decide_eq_true (by first | (with_reducible assumption) | assumption)
          obtain ⟨ad199, A199_1, c199_1, A199_2, c199_2, e199, hx199_0, hx199_1, hx199_2, hl199_1, hi199_1, hl199_2, hi199_2⟩ := at_T53 HR0.out x5_1 p199 q199
          have hw199_2 := hx199_2
          have hw199_1 := hx199_1
          have hw199_0 := hx199_0
          obtain rfl : ad195 = ad199 := (by injection e199)
          replace hx199_0 := (HB.out.cell (World.block_lt_of_cell? w _ hx199_0)).trans hx199_0
          replace hx199_1 := (HB.out.cell (World.block_lt_of_cell? w _ hx199_1)).trans hx199_1
          replace hx199_2 := (HB.out.cell (World.block_lt_of_cell? w _ hx199_2)).trans hx199_2
          have HR199_1 := Aside0.mk hi199_1
          have HC199_1 := Aside0.mk hl199_1
          clear hi199_1 hl199_1
          have HR199_2 := Aside0.mk hi199_2
          have HC199_2 := Aside0.mk hl199_2
          clear hi199_2 hl199_2
          replace p199 := eq_true p199
          replace q199 := eq_true q199
          have ea_ := Option.some.inj (hx195_1.symm.trans hx199_1)
          injection ea_ with ea_ en_ ec_
          subst ea_
          subst ec_
          clear en_
          have ea_ := Option.some.inj (hx195_2.symm.trans hx199_2)
          injection ea_ with ea_ en_ ec_
          subst ea_
          subst ec_
          clear en_
          have p200 : 0 ≤ (x5_1 : Int) := of_decide_eq_true (by first | (with_reducible assumption) | assumption)
          have q200 : x5_1 < (l1.length : Int) := of_decide_eq_true (by first | (with_reducible assumption) | assumption)
          obtain ⟨ad200, A200_1, c200_1, A200_2, c200_2, e200, hx200_0, hx200_1, hx200_2, hl200_1, hi200_1, hl200_2, hi200_2⟩ := at_T53 HR1.out x5_1 p200 q200
          have hw200_2 := hx200_2
          have hw200_1 := hx200_1
          have hw200_0 := hx200_0
          obtain rfl : ad196 = ad200 := (by injection e200)
          replace hx200_0 := (HB.out.cell (World.block_lt_of_cell? w _ hx200_0)).trans hx200_0
          replace hx200_1 := (HB.out.cell (World.block_lt_of_cell? w _ hx200_1)).trans hx200_1
          replace hx200_2 := (HB.out.cell (World.block_lt_of_cell? w _ hx200_2)).trans hx200_2
          have HR200_1 := Aside0.mk hi200_1
          have HC200_1 := Aside0.mk hl200_1
          clear hi200_1 hl200_1
          have HR200_2 := Aside0.mk hi200_2
          have HC200_2 := Aside0.mk hl200_2
          clear hi200_2 hl200_2
          replace p200 := eq_true p200
          replace q200 := eq_true q200
          have ea_ := Option.some.inj (hx196_1.symm.trans hx200_1)
          injection ea_ with ea_ en_ ec_
          subst ea_
          subst ec_
          clear en_
          have ea_ := Option.some.inj (hx196_2.symm.trans hx200_2)
          injection ea_ with ea_ en_ ec_
          subst ea_
          subst ec_
          clear en_
          refine start_ (n := 40) (S := fun w' => w'.cell? (ad195.add ((x5_1).toNat * 3)) = some (.int .i64 ((rd_T53 l0 x5_1).f0)) ∧ w'.cell? ⟨(ad195.add ((x5_1).toNat * 3)).block, (ad195.add ((x5_1).toNat * 3)).off + 1, none⟩ = some (.slice A195_1 ((rd_T53 l0 x5_1).f1).length c195_1) ∧ w'.cell? ⟨(ad195.add ((x5_1).toNat * 3)).block, (ad195.add ((x5_1).toNat * 3)).off + 2, none⟩ = some (.slice A195_2 ((rd_T53 l0 x5_1).f2).length c195_2) ∧ w'.cell? (ad196.add ((x5_1).toNat * 3)) = some (.int .i64 ((rd_T53 l1 x5_1).f0)) ∧ w'.cell? ⟨(ad196.add ((x5_1).toNat * 3)).block, (ad196.add ((x5_1).toNat * 3)).off + 1, none⟩ = some (.slice A196_1 ((rd_T53 l1 x5_1).f1).length c196_1) ∧ w'.cell? ⟨(ad196.add ((x5_1).toNat * 3)).block, (ad196.add ((x5_1).toNat * 3)).off + 2, none⟩ = some (.slice A196_2 ((rd_T53 l1 x5_1).f2).length c196_2) ∧ w'.cell? (ad195.add ((x5_1).toNat * 3)) = some (.int .i64 ((rd_T53 l0 x5_1).f0)) ∧ w'.cell? ⟨(ad195.add ((x5_1).toNat * 3)).block, (ad195.add ((x5_1).toNat * 3)).off + 1, none⟩ = some (.slice A195_1 ((rd_T53 l0 x5_1).f1).length c195_1) ∧ w'.cell? ⟨(ad195.add ((x5_1).toNat * 3)).block, (ad195.add ((x5_1).toNat * 3)).off + 2, none⟩ = some (.slice A195_2 ((rd_T53 l0 x5_1).f2).length c195_2) ∧ w'.cell? (ad196.add ((x5_1).toNat * 3)) = some (.int .i64 ((rd_T53 l1 x5_1).f0)) ∧ w'.cell? ⟨(ad196.add ((x5_1).toNat * 3)).block, (ad196.add ((x5_1).toNat * 3)).off + 1, none⟩ = some (.slice A196_1 ((rd_T53 l1 x5_1).f1).length c196_1) ∧ w'.cell? ⟨(ad196.add ((x5_1).toNat * 3)).block, (ad196.add ((x5_1).toNat * 3)).off + 2, none⟩ = some (.slice A196_2 ((rd_T53 l1 x5_1).f2).length c196_2) ∧ w'.cell? (ad195.add ((x5_1).toNat * 3)) = some (.int .i64 ((rd_T53 l0 x5_1).f0)) ∧ w'.cell? ⟨(ad195.add ((x5_1).toNat * 3)).block, (ad195.add ((x5_1).toNat * 3)).off + 1, none⟩ = some (.slice A195_1 ((rd_T53 l0 x5_1).f1).length c195_1) ∧ w'.cell? ⟨(ad195.add ((x5_1).toNat * 3)).block, (ad195.add ((x5_1).toNat * 3)).off + 2, none⟩ = some (.slice A195_2 ((rd_T53 l0 x5_1).f2).length c195_2) ∧ w'.cell? (ad196.add ((x5_1).toNat * 3)) = some (.int .i64 ((rd_T53 l1 x5_1).f0)) ∧ w'.cell? ⟨(ad196.add ((x5_1).toNat * 3)).block, (ad196.add ((x5_1).toNat * 3)).off + 1, none⟩ = some (.slice A196_1 ((rd_T53 l1 x5_1).f1).length c196_1) ∧ w'.cell? ⟨(ad196.add ((x5_1).toNat * 3)).block, (ad196.add ((x5_1).toNat * 3)).off + 2, none⟩ = some (.slice A196_2 ((rd_T53 l1 x5_1).f2).length c196_2)) (ds := []) #[false, false, false, false, false, false, false, false, false, false, false, false, false, false, false, false, false, false, false, false, false, false, false, false, false, false, false, false, false, false, false, false, false, false, false, false, false, false, false, false] (by kernel_rfl) rfl rfl ⟨((HB.out.cell (World.block_lt_of_cell? w _ hw195_0)).trans hw195_0), ((HB.out.cell (World.block_lt_of_cell? w _ hw195_1)).trans hw195_1), ((HB.out.cell (World.block_lt_of_cell? w _ hw195_2)).trans hw195_2), ((HB.out.cell (World.block_lt_of_cell? w _ hw196_0)).trans hw196_0), ((HB.out.cell (World.block_lt_of_cell? w _ hw196_1)).trans hw196_1), ((HB.out.cell (World.block_lt_of_cell? w _ hw196_2)).trans hw196_2), ((HB.out.cell (World.block_lt_of_cell? w _ hw197_0)).trans hw197_0), ((HB.out.cell (World.block_lt_of_cell? w _ hw197_1)).trans hw197_1), ((HB.out.cell (World.block_lt_of_cell? w _ hw197_2)).trans hw197_2), ((HB.out.cell (World.block_lt_of_cell? w _ hw198_0)).trans hw198_0), ((HB.out.cell (World.block_lt_of_cell? w _ hw198_1)).trans hw198_1), ((HB.out.cell (World.block_lt_of_cell? w _ hw198_2)).trans hw198_2), ((HB.out.cell (World.block_lt_of_cell? w _ hw199_0)).trans hw199_0), ((HB.out.cell (World.block_lt_of_cell? w _ hw199_1)).trans hw199_1), ((HB.out.cell (World.block_lt_of_cell? w _ hw199_2)).trans hw199_2), ((HB.out.cell (World.block_lt_of_cell? w _ hw200_0)).trans hw200_0), ((HB.out.cell (World.block_lt_of_cell? w _ hw200_1)).trans hw200_1), ((HB.out.cell (World.block_lt_of_cell? w _ hw200_2)).trans hw200_2)⟩ (fun hHeld => ?_); refine with_tabW substationref10_Same.tab6 substationref10_Same.bits6 (fun HT_ HW_ => ?_)
          generalize wr.drew = w16 at HB HR195_1 HR195_2 HR196_1 HR196_2 HR197_1 HR197_2 HR198_1 HR198_2 HR199_1 HR199_2 HR200_1 HR200_2 hx195_0 hx195_1 hx195_2 hx196_0 hx196_1 hx196_2 hx197_0 hx197_1 hx197_2 hx198_0 hx198_1 hx198_2 hx199_0 hx199_1 hx199_2 hx200_0 hx200_1 hx200_2 hHeld ⊢
          refine pure_ (i := 0) (N := some 17) (v := ?_) (a' := ?_) #[true, false, false, false, false, false, false, false, false, false, false, false, false, false, false, false, false, false, false, false, false, false, false, false, false, false, false, false, false, false, false, false, false, false, false, false, false, false, false, false] rfl rfl (any_of HT_.out (by kernel_rfl)) (fun _ _ _ h => h) (Or.inl ⟨by rfl, ?_⟩) ?_ ?_
          rotate_left
          ·intro w'
           go_simp
           with_reducible rfl
          rotate_left
          ·simp only [Act.put, List.setIfInBounds_toArray, List.set_cons_zero, List.set_cons_succ, i64_w, i32_w]
           rfl
          refine pure_ (i := 1) (N := some 18) (v := ?_) (a' := ?_) #[true, true, false, false, false, false, false, false, false, false, false, false, false, false, false, false, false, false, false, false, false, false, false, false, false, false, false, false, false, false, false, false, false, false, false, false, false, false, false, false] rfl rfl (any_of HT_.out (by kernel_rfl)) (fun _ _ _ h => h) (Or.inl ⟨by rfl, ?_⟩) ?_ ?_
          rotate_left
          ·intro w'
           go_simp
           with_reducible rfl
          rotate_left
          ·simp only [Act.put, List.setIfInBounds_toArray, List.set_cons_zero, List.set_cons_succ, i64_w, i32_w]
           rfl
          refine pure_ (i := 2) (N := some 19) (v := ?_) (a' := ?_) #[true, true, true, false, false, false, false, false, false, false, false, false, false, false, false, false, false, false, false, false, false, false, false, false, false, false, false, false, false, false, false, false, false, false, false, false, false, false, false, false] rfl rfl (any_of HT_.out (by kernel_rfl)) (fun _ _ _ h => h) (Or.inl ⟨by rfl, ?_⟩) ?_ ?_
          rotate_left
          ·intro w'
           go_simp
           with_reducible rfl
          rotate_left
          ·simp only [Act.put, List.setIfInBounds_toArray, List.set_cons_zero, List.set_cons_succ, i64_w, i32_w]
           rfl
          refine pure_ (i := 3) (N := some 20) (v := ?_) (a' := ?_) #[true, true, true, true, false, false, false, false, false, false, false, false, false, false, false, false, false, false, false, false, false, false, false, false, false, false, false, false, false, false, false, false, false, false, false, false, false, false, false, false] rfl rfl (any_of HT_.out (by kernel_rfl)) (fun _ _ _ h => h) (Or.inl ⟨by rfl, ?_⟩) ?_ ?_
          rotate_left
          ·intro w'
           go_simp
           with_reducible rfl
          rotate_left
          ·simp only [Act.put, List.setIfInBounds_toArray, List.set_cons_zero, List.set_cons_succ, i64_w, i32_w]
           rfl
          refine pure_ (i := 5) (N := some 22) (v := ?_) (a' := ?_) #[true, true, true, true, false, true, false, false, false, false, false, false, false, false, false, false, false, false, false, false, false, false, false, false, false, false, false, false, false, false, false, false, false, false, false, false, false, false, false, false] rfl rfl (any_of HT_.out (by kernel_rfl)) (fun _ _ _ h => h) (Or.inl ⟨by rfl, ?_⟩) ?_ ?_
          rotate_left
          ·intro w'
           go_simp
           with_reducible rfl
          rotate_left
          ·simp only [Act.put, List.setIfInBounds_toArray, List.set_cons_zero, List.set_cons_succ, i64_w, i32_w]
           rfl
          refine pure_ (i := 6) (N := some 23) (v := ?_) (a' := ?_) #[true, true, true, true, false, true, true, false, false, false, false, false, false, false, false, false, false, false, false, false, false, false, false, false, false, false, false, false, false, false, false, false, false, false, false, false, false, false, false, false] rfl rfl (any_of HT_.out (by kernel_rfl)) (fun _ _ _ h => h) (Or.inl ⟨by rfl, ?_⟩) ?_ ?_
          rotate_left
          ·intro w'
           go_simp
           with_reducible rfl
          rotate_left
          ·simp only [Act.put, List.setIfInBounds_toArray, List.set_cons_zero, List.set_cons_succ, i64_w, i32_w]
           rfl
          refine pure_ (i := 7) (N := some 24) (v := ?_) (a' := ?_) #[true, true, true, true, false, true, true, true, false, false, false, false, false, false, false, false, false, false, false, false, false, false, false, false, false, false, false, false, false, false, false, false, false, false, false, false, false, false, false, false] rfl rfl (any_of HT_.out (by kernel_rfl)) (fun _ _ _ h => h) (Or.inl ⟨by rfl, ?_⟩) ?_ ?_
          rotate_left
          ·intro w'
           go_simp
           with_reducible rfl
          rotate_left
          ·simp only [Act.put, List.setIfInBounds_toArray, List.set_cons_zero, List.set_cons_succ, i64_w, i32_w]
           rfl
          refine pure_ (i := 8) (N := some 25) (v := ?_) (a' := ?_) #[true, true, true, true, false, true, true, true, true, false, false, false, false, false, false, false, false, false, false, false, false, false, false, false, false, false, false, false, false, false, false, false, false, false, false, false, false, false, false, false] rfl rfl (any_of HT_.out (by kernel_rfl)) (fun _ _ _ h => h) (Or.inl ⟨by rfl, ?_⟩) ?_ ?_
          rotate_left
          ·intro w'
           go_simp
           with_reducible rfl
          rotate_left
          ·simp only [Act.put, List.setIfInBounds_toArray, List.set_cons_zero, List.set_cons_succ, i64_w, i32_w]
           rfl
          refine take_ (i := 4) (N := some 21) (v := ?_) (a' := ?_) #[true, true, true, true, true, true, true, true, true, false, false, false, false, false, false, false, false, false, false, false, false, false, false, false, false, false, false, false, false, false, false, false, false, false, false, false, false, false, false, false] rfl rfl (take_ofW HT_.out HW_.out (by kernel_rfl)) (fun _ _ _ h => h) (Or.inl ⟨by rfl, ?_⟩) hHeld ?_ ?_
          rotate_left
          ·rintro w' ⟨s0, s1, s2, s3, s4, s5, s6, s7, s8, s9, s10, s11, s12, s13, s14, s15, s16, s17⟩
           go_simp
           with_reducible rfl
          rotate_left
          ·simp only [Act.put, List.setIfInBounds_toArray, List.set_cons_zero, List.set_cons_succ, i64_w, i32_w]
           rfl
          refine take_ (i := 9) (N := some 26) (v := ?_) (a' := ?_) #[true, true, true, true, true, true, true, true, true, true, false, false, false, false, false, false, false, false, false, false, false, false, false, false, false, false, false, false, false, false, false, false, false, false, false, false, false, false, false, false] rfl rfl (take_ofW HT_.out HW_.out (by kernel_rfl)) (fun _ _ _ h => h) (Or.inl ⟨by rfl, ?_⟩) hHeld ?_ ?_
          rotate_left
          ·rintro w' ⟨s0, s1, s2, s3, s4, s5, s6, s7, s8, s9, s10, s11, s12, s13, s14, s15, s16, s17⟩
           go_simp
           with_reducible rfl
          rotate_left
          ·simp only [Act.put, List.setIfInBounds_toArray, List.set_cons_zero, List.set_cons_succ, i64_w, i32_w]
           rfl
          refine pure_ (i := 10) (N := some 27) (v := ?_) (a' := ?_) #[true, true, true, true, true, true, true, true, true, true, true, false, false, false, false, false, false, false, false, false, false, false, false, false, false, false, false, false, false, false, false, false, false, false, false, false, false, false, false, false] rfl rfl (any_of HT_.out (by kernel_rfl)) (fun _ _ _ h => h) (Or.inl ⟨by rfl, ?_⟩) ?_ ?_
          rotate_left
          ·intro w'
           go_simp
           with_reducible rfl
          rotate_left
          ·simp only [Act.put, List.setIfInBounds_toArray, List.set_cons_zero, List.set_cons_succ, i64_w, i32_w]
           rfl
          refine pure_ (i := 11) (N := some 28) (v := ?_) (a' := ?_) #[true, true, true, true, true, true, true, true, true, true, true, true, false, false, false, false, false, false, false, false, false, false, false, false, false, false, false, false, false, false, false, false, false, false, false, false, false, false, false, false] rfl rfl (any_of HT_.out (by kernel_rfl)) (fun _ _ _ h => h) (Or.inl ⟨by rfl, ?_⟩) ?_ ?_
          rotate_left
          ·intro w'
           go_simp
           with_reducible rfl
          rotate_left
          ·simp only [Act.put, List.setIfInBounds_toArray, List.set_cons_zero, List.set_cons_succ, i64_w, i32_w]
           rfl
          refine pure_ (i := 12) (N := some 29) (v := ?_) (a' := ?_) #[true, true, true, true, true, true, true, true, true, true, true, true, true, false, false, false, false, false, false, false, false, false, false, false, false, false, false, false, false, false, false, false, false, false, false, false, false, false, false, false] rfl rfl (any_of HT_.out (by kernel_rfl)) (fun _ _ _ h => h) (Or.inl ⟨by rfl, ?_⟩) ?_ ?_
          rotate_left
          ·intro w'
           go_simp
           with_reducible rfl
          rotate_left
          ·simp only [Act.put, List.setIfInBounds_toArray, List.set_cons_zero, List.set_cons_succ, i64_w, i32_w]
           rfl
          refine pure_ (i := 13) (N := some 30) (v := ?_) (a' := ?_) #[true, true, true, true, true, true, true, true, true, true, true, true, true, true, false, false, false, false, false, false, false, false, false, false, false, false, false, false, false, false, false, false, false, false, false, false, false, false, false, false] rfl rfl (any_of HT_.out (by kernel_rfl)) (fun _ _ _ h => h) (Or.inl ⟨by rfl, ?_⟩) ?_ ?_
          rotate_left
          ·intro w'
           go_simp
           with_reducible rfl
          rotate_left
          ·simp only [Act.put, List.setIfInBounds_toArray, List.set_cons_zero, List.set_cons_succ, i64_w, i32_w]
           rfl
          refine pure_ (i := 14) (N := some 31) (v := ?_) (a' := ?_) #[true, true, true, true, true, true, true, true, true, true, true, true, true, true, true, false, false, false, false, false, false, false, false, false, false, false, false, false, false, false, false, false, false, false, false, false, false, false, false, false] rfl rfl (any_of HT_.out (by kernel_rfl)) (fun _ _ _ h => h) (Or.inl ⟨by rfl, ?_⟩) ?_ ?_
          rotate_left
          ·intro w'
           go_simp
           with_reducible rfl
          rotate_left
          ·simp only [Act.put, List.setIfInBounds_toArray, List.set_cons_zero, List.set_cons_succ, i64_w, i32_w]
           rfl
          refine pure_ (i := 15) (N := some 32) (v := ?_) (a' := ?_) #[true, true, true, true, true, true, true, true, true, true, true, true, true, true, true, true, false, false, false, false, false, false, false, false, false, false, false, false, false, false, false, false, false, false, false, false, false, false, false, false] rfl rfl (any_of HT_.out (by kernel_rfl)) (fun _ _ _ h => h) (Or.inl ⟨by rfl, ?_⟩) ?_ ?_
          rotate_left
          ·intro w'
           go_simp
           with_reducible rfl
          rotate_left
          ·simp only [Act.put, List.setIfInBounds_toArray, List.set_cons_zero, List.set_cons_succ, i64_w, i32_w]
           rfl
          refine pure_ (i := 18) (N := some 35) (v := ?_) (a' := ?_) #[true, true, true, true, true, true, true, true, true, true, true, true, true, true, true, true, false, false, true, false, false, false, false, false, false, false, false, false, false, false, false, false, false, false, false, false, false, false, false, false] rfl rfl (any_of HT_.out (by kernel_rfl)) (fun _ _ _ h => h) (Or.inl ⟨by rfl, ?_⟩) ?_ ?_
          rotate_left
          ·intro w'
           go_simp
           with_reducible rfl
          rotate_left
          ·simp only [Act.put, List.setIfInBounds_toArray, List.set_cons_zero, List.set_cons_succ, i64_w, i32_w]
           rfl
          refine pure_ (i := 19) (N := some 36) (v := ?_) (a' := ?_) #[true, true, true, true, true, true, true, true, true, true, true, true, true, true, true, true, false, false, true, true, false, false, false, false, false, false, false, false, false, false, false, false, false, false, false, false, false, false, false, false] rfl rfl (any_of HT_.out (by kernel_rfl)) (fun _ _ _ h => h) (Or.inl ⟨by rfl, ?_⟩) ?_ ?_
          rotate_left
          ·intro w'
           go_simp
           with_reducible rfl
          rotate_left
          ·simp only [Act.put, List.setIfInBounds_toArray, List.set_cons_zero, List.set_cons_succ, i64_w, i32_w]
           rfl
          refine pure_ (i := 20) (N := some 37) (v := ?_) (a' := ?_) #[true, true, true, true, true, true, true, true, true, true, true, true, true, true, true, true, false, false, true, true, true, false, false, false, false, false, false, false, false, false, false, false, false, false, false, false, false, false, false, false] rfl rfl (any_of HT_.out (by kernel_rfl)) (fun _ _ _ h => h) (Or.inl ⟨by rfl, ?_⟩) ?_ ?_
          rotate_left
          ·intro w'
           go_simp
           with_reducible rfl
          rotate_left
          ·simp only [Act.put, List.setIfInBounds_toArray, List.set_cons_zero, List.set_cons_succ, i64_w, i32_w]
           rfl
          refine pure_ (i := 21) (N := some 38) (v := ?_) (a' := ?_) #[true, true, true, true, true, true, true, true, true, true, true, true, true, true, true, true, false, false, true, true, true, true, false, false, false, false, false, false, false, false, false, false, false, false, false, false, false, false, false, false] rfl rfl (any_of HT_.out (by kernel_rfl)) (fun _ _ _ h => h) (Or.inl ⟨by rfl, ?_⟩) ?_ ?_
          rotate_left
          ·intro w'
           go_simp
           with_reducible rfl
          rotate_left
          ·simp only [Act.put, List.setIfInBounds_toArray, List.set_cons_zero, List.set_cons_succ, i64_w, i32_w]
           rfl
          refine take_ (i := 16) (N := some 33) (v := ?_) (a' := ?_) #[true, true, true, true, true, true, true, true, true, true, true, true, true, true, true, true, true, false, true, true, true, true, false, false, false, false, false, false, false, false, false, false, false, false, false, false, false, false, false, false] rfl rfl (take_ofW HT_.out HW_.out (by kernel_rfl)) (fun _ _ _ h => h) (Or.inl ⟨by rfl, ?_⟩) hHeld ?_ ?_
          rotate_left
          ·rintro w' ⟨s0, s1, s2, s3, s4, s5, s6, s7, s8, s9, s10, s11, s12, s13, s14, s15, s16, s17⟩
           go_simp
           with_reducible rfl
          rotate_left
          ·simp only [Act.put, List.setIfInBounds_toArray, List.set_cons_zero, List.set_cons_succ, i64_w, i32_w]
           rfl
          refine take_ (i := 22) (N := some 39) (v := ?_) (a' := ?_) #[true, true, true, true, true, true, true, true, true, true, true, true, true, true, true, true, true, false, true, true, true, true, true, false, false, false, false, false, false, false, false, false, false, false, false, false, false, false, false, false] rfl rfl (take_ofW HT_.out HW_.out (by kernel_rfl)) (fun _ _ _ h => h) (Or.inl ⟨by rfl, ?_⟩) hHeld ?_ ?_
          rotate_left
          ·rintro w' ⟨s0, s1, s2, s3, s4, s5, s6, s7, s8, s9, s10, s11, s12, s13, s14, s15, s16, s17⟩
           go_simp
           with_reducible rfl
          rotate_left
          ·simp only [Act.put, List.setIfInBounds_toArray, List.set_cons_zero, List.set_cons_succ, i64_w, i32_w]
           rfl
          refine join_ (σ := Unit) 16 #[true, true, true, true, true, true, true, true, true, true, true, true, true, true, true, true, true, true, true, true, true, true, true, true, false, false, false, false, false, false, false, false, false, false, false, false, false, false, false, false] (fun s_ => [(34, .string (strOfNums ((rd_T53 l0 x5_1).f1))), (40, .string (strOfNums ((rd_T53 l1 x5_1).f1)))]) (fun s_ w' => (w'.cell? (ad195.add ((x5_1).toNat * 3)) = some (.int .i64 ((rd_T53 l0 x5_1).f0)) ∧ w'.cell? ⟨(ad195.add ((x5_1).toNat * 3)).block, (ad195.add ((x5_1).toNat * 3)).off + 1, none⟩ = some (.slice A195_1 ((rd_T53 l0 x5_1).f1).length c195_1) ∧ w'.cell? ⟨(ad195.add ((x5_1).toNat * 3)).block, (ad195.add ((x5_1).toNat * 3)).off + 2, none⟩ = some (.slice A195_2 ((rd_T53 l0 x5_1).f2).length c195_2) ∧ w'.cell? (ad196.add ((x5_1).toNat * 3)) = some (.int .i64 ((rd_T53 l1 x5_1).f0)) ∧ w'.cell? ⟨(ad196.add ((x5_1).toNat * 3)).block, (ad196.add ((x5_1).toNat * 3)).off + 1, none⟩ = some (.slice A196_1 ((rd_T53 l1 x5_1).f1).length c196_1) ∧ w'.cell? ⟨(ad196.add ((x5_1).toNat * 3)).block, (ad196.add ((x5_1).toNat * 3)).off + 2, none⟩ = some (.slice A196_2 ((rd_T53 l1 x5_1).f2).length c196_2) ∧ w'.cell? (ad195.add ((x5_1).toNat * 3)) = some (.int .i64 ((rd_T53 l0 x5_1).f0)) ∧ w'.cell? ⟨(ad195.add ((x5_1).toNat * 3)).block, (ad195.add ((x5_1).toNat * 3)).off + 1, none⟩ = some (.slice A195_1 ((rd_T53 l0 x5_1).f1).length c195_1) ∧ w'.cell? ⟨(ad195.add ((x5_1).toNat * 3)).block, (ad195.add ((x5_1).toNat * 3)).off + 2, none⟩ = some (.slice A195_2 ((rd_T53 l0 x5_1).f2).length c195_2) ∧ w'.cell? (ad196.add ((x5_1).toNat * 3)) = some (.int .i64 ((rd_T53 l1 x5_1).f0)) ∧ w'.cell? ⟨(ad196.add ((x5_1).toNat * 3)).block, (ad196.add ((x5_1).toNat * 3)).off + 1, none⟩ = some (.slice A196_1 ((rd_T53 l1 x5_1).f1).length c196_1) ∧ w'.cell? ⟨(ad196.add ((x5_1).toNat * 3)).block, (ad196.add ((x5_1).toNat * 3)).off + 2, none⟩ = some (.slice A196_2 ((rd_T53 l1 x5_1).f2).length c196_2) ∧ w'.cell? (ad195.add ((x5_1).toNat * 3)) = some (.int .i64 ((rd_T53 l0 x5_1).f0)) ∧ w'.cell? ⟨(ad195.add ((x5_1).toNat * 3)).block, (ad195.add ((x5_1).toNat * 3)).off + 1, none⟩ = some (.slice A195_1 ((rd_T53 l0 x5_1).f1).length c195_1) ∧ w'.cell? ⟨(ad195.add ((x5_1).toNat * 3)).block, (ad195.add ((x5_1).toNat * 3)).off + 2, none⟩ = some (.slice A195_2 ((rd_T53 l0 x5_1).f2).length c195_2) ∧ w'.cell? (ad196.add ((x5_1).toNat * 3)) = some (.int .i64 ((rd_T53 l1 x5_1).f0)) ∧ w'.cell? ⟨(ad196.add ((x5_1).toNat * 3)).block, (ad196.add ((x5_1).toNat * 3)).off + 1, none⟩ = some (.slice A196_1 ((rd_T53 l1 x5_1).f1).length c196_1) ∧ w'.cell? ⟨(ad196.add ((x5_1).toNat * 3)).block, (ad196.add ((x5_1).toNat * 3)).off + 2, none⟩ = some (.slice A196_2 ((rd_T53 l1 x5_1).f2).length c196_2)) ∧ (Below w.heap.size w w')) ?_ ?_
          rotate_left
          ·intro hCont
           refine two_ (i := 17) (j := 23) (Ni := some 34) (Nj := some 40) #[true, true, true, true, true, true, true, true, true, true, true, true, true, true, true, true, true, true, true, true, true, true, true, false, false, false, false, false, false, false, false, false, false, false, false, false, false, false, false, false] #[true, true, true, true, true, true, true, true, true, true, true, true, true, true, true, true, true, false, true, true, true, true, true, true, false, false, false, false, false, false, false, false, false, false, false, false, false, false, false, false] rfl rfl rfl rfl (two_of HT_.out (by kernel_rfl)) (by decide) (by decide) (fun K hK => ?_) (fun K hK => ?_)
           ·skip
            have hcv17 := Kd.C_string (P := Try.prog) (A := A195_1) (c := c195_1) Try.underlying22 Try.underlying5 Try.underlying9 (Kd.C_below HR197_1.out HB.out)
            refine value_ (w1 := ?_) (v := ?_) (by rfl) rfl ?_ ?_
            rotate_left 2
            ·go_simp
             constructor
             ·rfl
             ·rfl
            clear hcv17
            refine hK.out _ _ ⟨((HB.out.cell (World.block_lt_of_cell? w _ hw195_0)).trans hw195_0), ((HB.out.cell (World.block_lt_of_cell? w _ hw195_1)).trans hw195_1), ((HB.out.cell (World.block_lt_of_cell? w _ hw195_2)).trans hw195_2), ((HB.out.cell (World.block_lt_of_cell? w _ hw196_0)).trans hw196_0), ((HB.out.cell (World.block_lt_of_cell? w _ hw196_1)).trans hw196_1), ((HB.out.cell (World.block_lt_of_cell? w _ hw196_2)).trans hw196_2), ((HB.out.cell (World.block_lt_of_cell? w _ hw197_0)).trans hw197_0), ((HB.out.cell (World.block_lt_of_cell? w _ hw197_1)).trans hw197_1), ((HB.out.cell (World.block_lt_of_cell? w _ hw197_2)).trans hw197_2), ((HB.out.cell (World.block_lt_of_cell? w _ hw198_0)).trans hw198_0), ((HB.out.cell (World.block_lt_of_cell? w _ hw198_1)).trans hw198_1), ((HB.out.cell (World.block_lt_of_cell? w _ hw198_2)).trans hw198_2), ((HB.out.cell (World.block_lt_of_cell? w _ hw199_0)).trans hw199_0), ((HB.out.cell (World.block_lt_of_cell? w _ hw199_1)).trans hw199_1), ((HB.out.cell (World.block_lt_of_cell? w _ hw199_2)).trans hw199_2), ((HB.out.cell (World.block_lt_of_cell? w _ hw200_0)).trans hw200_0), ((HB.out.cell (World.block_lt_of_cell? w _ hw200_1)).trans hw200_1), ((HB.out.cell (World.block_lt_of_cell? w _ hw200_2)).trans hw200_2)⟩ (fun hHeld => ?_)
            clear hK K
            refine norm_ (a' := ?_) ?_ ?_
            rotate_left
            ·show Act.put _ (some 34) _ = _
             simp only [Act.put, List.setIfInBounds_toArray, List.set_cons_zero, List.set_cons_succ, i64_w, i32_w]
             rfl
            refine one_ (i := 23) (N := some 40) #[true, true, true, true, true, true, true, true, true, true, true, true, true, true, true, true, true, true, true, true, true, true, true, true, false, false, false, false, false, false, false, false, false, false, false, false, false, false, false, false] rfl rfl (one_of HT_.out (by kernel_rfl)) (by decide) (fun K hK => ?_)
            have hcv18 := Kd.C_string (P := Try.prog) (A := A196_1) (c := c196_1) Try.underlying22 Try.underlying5 Try.underlying9 (Kd.C_below HR198_1.out HB.out)
            refine value_ (w1 := ?_) (v := ?_) (by rfl) rfl ?_ ?_
            rotate_left 2
            ·go_simp
             constructor
             ·rfl
             ·rfl
            clear hcv18
            refine hK.out _ _ ⟨((HB.out.cell (World.block_lt_of_cell? w _ hw195_0)).trans hw195_0), ((HB.out.cell (World.block_lt_of_cell? w _ hw195_1)).trans hw195_1), ((HB.out.cell (World.block_lt_of_cell? w _ hw195_2)).trans hw195_2), ((HB.out.cell (World.block_lt_of_cell? w _ hw196_0)).trans hw196_0), ((HB.out.cell (World.block_lt_of_cell? w _ hw196_1)).trans hw196_1), ((HB.out.cell (World.block_lt_of_cell? w _ hw196_2)).trans hw196_2), ((HB.out.cell (World.block_lt_of_cell? w _ hw197_0)).trans hw197_0), ((HB.out.cell (World.block_lt_of_cell? w _ hw197_1)).trans hw197_1), ((HB.out.cell (World.block_lt_of_cell? w _ hw197_2)).trans hw197_2), ((HB.out.cell (World.block_lt_of_cell? w _ hw198_0)).trans hw198_0), ((HB.out.cell (World.block_lt_of_cell? w _ hw198_1)).trans hw198_1), ((HB.out.cell (World.block_lt_of_cell? w _ hw198_2)).trans hw198_2), ((HB.out.cell (World.block_lt_of_cell? w _ hw199_0)).trans hw199_0), ((HB.out.cell (World.block_lt_of_cell? w _ hw199_1)).trans hw199_1), ((HB.out.cell (World.block_lt_of_cell? w _ hw199_2)).trans hw199_2), ((HB.out.cell (World.block_lt_of_cell? w _ hw200_0)).trans hw200_0), ((HB.out.cell (World.block_lt_of_cell? w _ hw200_1)).trans hw200_1), ((HB.out.cell (World.block_lt_of_cell? w _ hw200_2)).trans hw200_2)⟩ (fun hHeld => ?_)
            clear hK K
            refine norm_ (a' := ?_) ?_ ?_
            rotate_left
            ·show Act.put _ (some 40) _ = _
             simp only [Act.put, List.setIfInBounds_toArray, List.set_cons_zero, List.set_cons_succ, i64_w, i32_w]
             rfl
            exact norm_ (by simp only [putAll, Act.put, List.setIfInBounds_toArray, List.set_cons_zero, List.set_cons_succ]) (hCont () _ ⟨hHeld, (by repeat (first | (with_reducible first | exact HB.out | apply below_alloc | apply pw_below_drewN | apply below_drew1) | exact HB.out))⟩)
           ·skip
            have hcv17 := Kd.C_string (P := Try.prog) (A := A196_1) (c := c196_1) Try.underlying22 Try.underlying5 Try.underlying9 (Kd.C_below HR198_1.out HB.out)
            refine value_ (w1 := ?_) (v := ?_) (by rfl) rfl ?_ ?_
            rotate_left 2
            ·go_simp
             constructor
             ·rfl
             ·rfl
            clear hcv17
            refine hK.out _ _ ⟨((HB.out.cell (World.block_lt_of_cell? w _ hw195_0)).trans hw195_0), ((HB.out.cell (World.block_lt_of_cell? w _ hw195_1)).trans hw195_1), ((HB.out.cell (World.block_lt_of_cell? w _ hw195_2)).trans hw195_2), ((HB.out.cell (World.block_lt_of_cell? w _ hw196_0)).trans hw196_0), ((HB.out.cell (World.block_lt_of_cell? w _ hw196_1)).trans hw196_1), ((HB.out.cell (World.block_lt_of_cell? w _ hw196_2)).trans hw196_2), ((HB.out.cell (World.block_lt_of_cell? w _ hw197_0)).trans hw197_0), ((HB.out.cell (World.block_lt_of_cell? w _ hw197_1)).trans hw197_1), ((HB.out.cell (World.block_lt_of_cell? w _ hw197_2)).trans hw197_2), ((HB.out.cell (World.block_lt_of_cell? w _ hw198_0)).trans hw198_0), ((HB.out.cell (World.block_lt_of_cell? w _ hw198_1)).trans hw198_1), ((HB.out.cell (World.block_lt_of_cell? w _ hw198_2)).trans hw198_2), ((HB.out.cell (World.block_lt_of_cell? w _ hw199_0)).trans hw199_0), ((HB.out.cell (World.block_lt_of_cell? w _ hw199_1)).trans hw199_1), ((HB.out.cell (World.block_lt_of_cell? w _ hw199_2)).trans hw199_2), ((HB.out.cell (World.block_lt_of_cell? w _ hw200_0)).trans hw200_0), ((HB.out.cell (World.block_lt_of_cell? w _ hw200_1)).trans hw200_1), ((HB.out.cell (World.block_lt_of_cell? w _ hw200_2)).trans hw200_2)⟩ (fun hHeld => ?_)
            clear hK K
            refine norm_ (a' := ?_) ?_ ?_
            rotate_left
            ·show Act.put _ (some 40) _ = _
             simp only [Act.put, List.setIfInBounds_toArray, List.set_cons_zero, List.set_cons_succ, i64_w, i32_w]
             rfl
            refine one_ (i := 17) (N := some 34) #[true, true, true, true, true, true, true, true, true, true, true, true, true, true, true, true, true, true, true, true, true, true, true, true, false, false, false, false, false, false, false, false, false, false, false, false, false, false, false, false] rfl rfl (one_of HT_.out (by kernel_rfl)) (by decide) (fun K hK => ?_)
            have hcv18 := Kd.C_string (P := Try.prog) (A := A195_1) (c := c195_1) Try.underlying22 Try.underlying5 Try.underlying9 (Kd.C_below HR197_1.out HB.out)
            refine value_ (w1 := ?_) (v := ?_) (by rfl) rfl ?_ ?_
            rotate_left 2
            ·go_simp
             constructor
             ·rfl
             ·rfl
            clear hcv18
            refine hK.out _ _ ⟨((HB.out.cell (World.block_lt_of_cell? w _ hw195_0)).trans hw195_0), ((HB.out.cell (World.block_lt_of_cell? w _ hw195_1)).trans hw195_1), ((HB.out.cell (World.block_lt_of_cell? w _ hw195_2)).trans hw195_2), ((HB.out.cell (World.block_lt_of_cell? w _ hw196_0)).trans hw196_0), ((HB.out.cell (World.block_lt_of_cell? w _ hw196_1)).trans hw196_1), ((HB.out.cell (World.block_lt_of_cell? w _ hw196_2)).trans hw196_2), ((HB.out.cell (World.block_lt_of_cell? w _ hw197_0)).trans hw197_0), ((HB.out.cell (World.block_lt_of_cell? w _ hw197_1)).trans hw197_1), ((HB.out.cell (World.block_lt_of_cell? w _ hw197_2)).trans hw197_2), ((HB.out.cell (World.block_lt_of_cell? w _ hw198_0)).trans hw198_0), ((HB.out.cell (World.block_lt_of_cell? w _ hw198_1)).trans hw198_1), ((HB.out.cell (World.block_lt_of_cell? w _ hw198_2)).trans hw198_2), ((HB.out.cell (World.block_lt_of_cell? w _ hw199_0)).trans hw199_0), ((HB.out.cell (World.block_lt_of_cell? w _ hw199_1)).trans hw199_1), ((HB.out.cell (World.block_lt_of_cell? w _ hw199_2)).trans hw199_2), ((HB.out.cell (World.block_lt_of_cell? w _ hw200_0)).trans hw200_0), ((HB.out.cell (World.block_lt_of_cell? w _ hw200_1)).trans hw200_1), ((HB.out.cell (World.block_lt_of_cell? w _ hw200_2)).trans hw200_2)⟩ (fun hHeld => ?_)
            clear hK K
            refine norm_ (a' := ?_) ?_ ?_
            rotate_left
            ·show Act.put _ (some 34) _ = _
             simp only [Act.put, List.setIfInBounds_toArray, List.set_cons_zero, List.set_cons_succ, i64_w, i32_w]
             rfl
            exact norm_ (by simp only [putAll, Act.put, List.setIfInBounds_toArray, List.set_cons_zero, List.set_cons_succ]) (hCont () _ ⟨hHeld, (by repeat (first | (with_reducible first | exact HB.out | apply below_alloc | apply pw_below_drewN | apply below_drew1) | exact HB.out))⟩)
          rintro _ w19 ⟨hS_, h0_⟩
          have n0_ : Aside0 (Below w.heap.size w w19) := ⟨h0_⟩
          clear HB
          clear h0_
          have HB := n0_
          clear n0_
          have hHeld : w19.cell? (ad195.add ((x5_1).toNat * 3)) = some (.int .i64 ((rd_T53 l0 x5_1).f0)) ∧ w19.cell? ⟨(ad195.add ((x5_1).toNat * 3)).block, (ad195.add ((x5_1).toNat * 3)).off + 1, none⟩ = some (.slice A195_1 ((rd_T53 l0 x5_1).f1).length c195_1) ∧ w19.cell? ⟨(ad195.add ((x5_1).toNat * 3)).block, (ad195.add ((x5_1).toNat * 3)).off + 2, none⟩ = some (.slice A195_2 ((rd_T53 l0 x5_1).f2).length c195_2) ∧ w19.cell? (ad196.add ((x5_1).toNat * 3)) = some (.int .i64 ((rd_T53 l1 x5_1).f0)) ∧ w19.cell? ⟨(ad196.add ((x5_1).toNat * 3)).block, (ad196.add ((x5_1).toNat * 3)).off + 1, none⟩ = some (.slice A196_1 ((rd_T53 l1 x5_1).f1).length c196_1) ∧ w19.cell? ⟨(ad196.add ((x5_1).toNat * 3)).block, (ad196.add ((x5_1).toNat * 3)).off + 2, none⟩ = some (.slice A196_2 ((rd_T53 l1 x5_1).f2).length c196_2) ∧ w19.cell? (ad195.add ((x5_1).toNat * 3)) = some (.int .i64 ((rd_T53 l0 x5_1).f0)) ∧ w19.cell? ⟨(ad195.add ((x5_1).toNat * 3)).block, (ad195.add ((x5_1).toNat * 3)).off + 1, none⟩ = some (.slice A195_1 ((rd_T53 l0 x5_1).f1).length c195_1) ∧ w19.cell? ⟨(ad195.add ((x5_1).toNat * 3)).block, (ad195.add ((x5_1).toNat * 3)).off + 2, none⟩ = some (.slice A195_2 ((rd_T53 l0 x5_1).f2).length c195_2) ∧ w19.cell? (ad196.add ((x5_1).toNat * 3)) = some (.int .i64 ((rd_T53 l1 x5_1).f0)) ∧ w19.cell? ⟨(ad196.add ((x5_1).toNat * 3)).block, (ad196.add ((x5_1).toNat * 3)).off + 1, none⟩ = some (.slice A196_1 ((rd_T53 l1 x5_1).f1).length c196_1) ∧ w19.cell? ⟨(ad196.add ((x5_1).toNat * 3)).block, (ad196.add ((x5_1).toNat * 3)).off + 2, none⟩ = some (.slice A196_2 ((rd_T53 l1 x5_1).f2).length c196_2) ∧ w19.cell? (ad195.add ((x5_1).toNat * 3)) = some (.int .i64 ((rd_T53 l0 x5_1).f0)) ∧ w19.cell? ⟨(ad195.add ((x5_1).toNat * 3)).block, (ad195.add ((x5_1).toNat * 3)).off + 1, none⟩ = some (.slice A195_1 ((rd_T53 l0 x5_1).f1).length c195_1) ∧ w19.cell? ⟨(ad195.add ((x5_1).toNat * 3)).block, (ad195.add ((x5_1).toNat * 3)).off + 2, none⟩ = some (.slice A195_2 ((rd_T53 l0 x5_1).f2).length c195_2) ∧ w19.cell? (ad196.add ((x5_1).toNat * 3)) = some (.int .i64 ((rd_T53 l1 x5_1).f0)) ∧ w19.cell? ⟨(ad196.add ((x5_1).toNat * 3)).block, (ad196.add ((x5_1).toNat * 3)).off + 1, none⟩ = some (.slice A196_1 ((rd_T53 l1 x5_1).f1).length c196_1) ∧ w19.cell? ⟨(ad196.add ((x5_1).toNat * 3)).block, (ad196.add ((x5_1).toNat * 3)).off + 2, none⟩ = some (.slice A196_2 ((rd_T53 l1 x5_1).f2).length c196_2) := hS_
          refine norm_ (a' := ?_) ?_ ?_
          rotate_left
          ·simp only [putAll, Act.put, List.setIfInBounds_toArray, List.set_cons_zero, List.set_cons_succ]
           rfl
          refine pure_ (i := 24) (N := some 41) (v := ?_) (a' := ?_) #[true, true, true, true, true, true, true, true, true, true, true, true, true, true, true, true, true, true, true, true, true, true, true, true, true, false, false, false, false, false, false, false, false, false, false, false, false, false, false, false] rfl rfl (any_of HT_.out (by kernel_rfl)) (fun _ _ _ h => h) (Or.inl ⟨by rfl, ?_⟩) ?_ ?_
          rotate_left
          ·intro w'
           go_simp
           with_reducible rfl
          rotate_left
          ·simp only [Act.put, List.setIfInBounds_toArray, List.set_cons_zero, List.set_cons_succ, i64_w, i32_w]
           rfl
          refine pure_ (i := 25) (N := some 42) (v := ?_) (a' := ?_) #[true, true, true, true, true, true, true, true, true, true, true, true, true, true, true, true, true, true, true, true, true, true, true, true, true, true, false, false, false, false, false, false, false, false, false, false, false, false, false, false] rfl rfl (any_of HT_.out (by kernel_rfl)) (fun _ _ _ h => h) (Or.inl ⟨by rfl, ?_⟩) ?_ ?_
          rotate_left
          ·intro w'
           go_simp
           with_reducible rfl
          rotate_left
          ·simp only [Act.put, List.setIfInBounds_toArray, List.set_cons_zero, List.set_cons_succ, i64_w, i32_w]
           rfl
          refine pure_ (i := 26) (N := some 43) (v := ?_) (a' := ?_) #[true, true, true, true, true, true, true, true, true, true, true, true, true, true, true, true, true, true, true, true, true, true, true, true, true, true, true, false, false, false, false, false, false, false, false, false, false, false, false, false] rfl rfl (any_of HT_.out (by kernel_rfl)) (fun _ _ _ h => h) (Or.inl ⟨by rfl, ?_⟩) ?_ ?_
          rotate_left
          ·intro w'
           go_simp
           with_reducible rfl
          rotate_left
          ·simp only [Act.put, List.setIfInBounds_toArray, List.set_cons_zero, List.set_cons_succ, i64_w, i32_w]
           rfl
          refine pure_ (i := 27) (N := some 44) (v := ?_) (a' := ?_) #[true, true, true, true, true, true, true, true, true, true, true, true, true, true, true, true, true, true, true, true, true, true, true, true, true, true, true, true, false, false, false, false, false, false, false, false, false, false, false, false] rfl rfl (any_of HT_.out (by kernel_rfl)) (fun _ _ _ h => h) (Or.inl ⟨by rfl, ?_⟩) ?_ ?_
          rotate_left
          ·intro w'
           go_simp
           with_reducible rfl
          rotate_left
          ·simp only [Act.put, List.setIfInBounds_toArray, List.set_cons_zero, List.set_cons_succ, i64_w, i32_w]
           rfl
          refine pure_ (i := 28) (N := some 45) (v := ?_) (a' := ?_) #[true, true, true, true, true, true, true, true, true, true, true, true, true, true, true, true, true, true, true, true, true, true, true, true, true, true, true, true, true, false, false, false, false, false, false, false, false, false, false, false] rfl rfl (any_of HT_.out (by kernel_rfl)) (fun _ _ _ h => h) (Or.inl ⟨by rfl, ?_⟩) ?_ ?_
          rotate_left
          ·intro w'
           go_simp
           with_reducible rfl
          rotate_left
          ·simp only [Act.put, List.setIfInBounds_toArray, List.set_cons_zero, List.set_cons_succ, i64_w, i32_w]
           rfl
          refine pure_ (i := 29) (N := some 46) (v := ?_) (a' := ?_) #[true, true, true, true, true, true, true, true, true, true, true, true, true, true, true, true, true, true, true, true, true, true, true, true, true, true, true, true, true, true, false, false, false, false, false, false, false, false, false, false] rfl rfl (any_of HT_.out (by kernel_rfl)) (fun _ _ _ h => h) (Or.inl ⟨by rfl, ?_⟩) ?_ ?_
          rotate_left
          ·intro w'
           go_simp
           with_reducible rfl
          rotate_left
          ·simp only [Act.put, List.setIfInBounds_toArray, List.set_cons_zero, List.set_cons_succ, i64_w, i32_w]
           rfl
          refine pure_ (i := 30) (N := some 47) (v := ?_) (a' := ?_) #[true, true, true, true, true, true, true, true, true, true, true, true, true, true, true, true, true, true, true, true, true, true, true, true, true, true, true, true, true, true, true, false, false, false, false, false, false, false, false, false] rfl rfl (any_of HT_.out (by kernel_rfl)) (fun _ _ _ h => h) (Or.inl ⟨by rfl, ?_⟩) ?_ ?_
          rotate_left
          ·intro w'
           go_simp
           with_reducible rfl
          rotate_left
          ·simp only [Act.put, List.setIfInBounds_toArray, List.set_cons_zero, List.set_cons_succ, i64_w, i32_w]
           rfl
          refine pure_ (i := 32) (N := some 49) (v := ?_) (a' := ?_) #[true, true, true, true, true, true, true, true, true, true, true, true, true, true, true, true, true, true, true, true, true, true, true, true, true, true, true, true, true, true, true, false, true, false, false, false, false, false, false, false] rfl rfl (any_of HT_.out (by kernel_rfl)) (fun _ _ _ h => h) (Or.inl ⟨by rfl, ?_⟩) ?_ ?_
          rotate_left
          ·intro w'
           go_simp
           with_reducible rfl
          rotate_left
          ·simp only [Act.put, List.setIfInBounds_toArray, List.set_cons_zero, List.set_cons_succ, i64_w, i32_w]
           rfl
          refine pure_ (i := 33) (N := some 50) (v := ?_) (a' := ?_) #[true, true, true, true, true, true, true, true, true, true, true, true, true, true, true, true, true, true, true, true, true, true, true, true, true, true, true, true, true, true, true, false, true, true, false, false, false, false, false, false] rfl rfl (any_of HT_.out (by kernel_rfl)) (fun _ _ _ h => h) (Or.inl ⟨by rfl, ?_⟩) ?_ ?_
          rotate_left
          ·intro w'
           go_simp
           with_reducible rfl
          rotate_left
          ·simp only [Act.put, List.setIfInBounds_toArray, List.set_cons_zero, List.set_cons_succ, i64_w, i32_w]
           rfl
          refine pure_ (i := 34) (N := some 51) (v := ?_) (a' := ?_) #[true, true, true, true, true, true, true, true, true, true, true, true, true, true, true, true, true, true, true, true, true, true, true, true, true, true, true, true, true, true, true, false, true, true, true, false, false, false, false, false] rfl rfl (any_of HT_.out (by kernel_rfl)) (fun _ _ _ h => h) (Or.inl ⟨by rfl, ?_⟩) ?_ ?_
          rotate_left
          ·intro w'
           go_simp
           with_reducible rfl
          rotate_left
          ·simp only [Act.put, List.setIfInBounds_toArray, List.set_cons_zero, List.set_cons_succ, i64_w, i32_w]
           rfl
          refine pure_ (i := 35) (N := some 52) (v := ?_) (a' := ?_) #[true, true, true, true, true, true, true, true, true, true, true, true, true, true, true, true, true, true, true, true, true, true, true, true, true, true, true, true, true, true, true, false, true, true, true, true, false, false, false, false] rfl rfl (any_of HT_.out (by kernel_rfl)) (fun _ _ _ h => h) (Or.inl ⟨by rfl, ?_⟩) ?_ ?_
          rotate_left
          ·intro w'
           go_simp
           with_reducible rfl
          rotate_left
          ·simp only [Act.put, List.setIfInBounds_toArray, List.set_cons_zero, List.set_cons_succ, i64_w, i32_w]
           rfl
          refine take_ (i := 31) (N := some 48) (v := ?_) (a' := ?_) #[true, true, true, true, true, true, true, true, true, true, true, true, true, true, true, true, true, true, true, true, true, true, true, true, true, true, true, true, true, true, true, true, true, true, true, true, false, false, false, false] rfl rfl (take_ofW HT_.out HW_.out (by kernel_rfl)) (fun _ _ _ h => h) (Or.inl ⟨by rfl, ?_⟩) hHeld ?_ ?_
          rotate_left
          ·rintro w' ⟨s0, s1, s2, s3, s4, s5, s6, s7, s8, s9, s10, s11, s12, s13, s14, s15, s16, s17⟩
           go_simp
           with_reducible rfl
          rotate_left
          ·simp only [Act.put, List.setIfInBounds_toArray, List.set_cons_zero, List.set_cons_succ, i64_w, i32_w]
           rfl
          refine take_ (i := 36) (N := some 53) (v := ?_) (a' := ?_) #[true, true, true, true, true, true, true, true, true, true, true, true, true, true, true, true, true, true, true, true, true, true, true, true, true, true, true, true, true, true, true, true, true, true, true, true, true, false, false, false] rfl rfl (take_ofW HT_.out HW_.out (by kernel_rfl)) (fun _ _ _ h => h) (Or.inl ⟨by rfl, ?_⟩) hHeld ?_ ?_
          rotate_left
          ·rintro w' ⟨s0, s1, s2, s3, s4, s5, s6, s7, s8, s9, s10, s11, s12, s13, s14, s15, s16, s17⟩
           go_simp
           with_reducible rfl
          rotate_left
          ·simp only [Act.put, List.setIfInBounds_toArray, List.set_cons_zero, List.set_cons_succ, i64_w, i32_w]
           rfl
          refine one_ (i := 37) (N := some 54) #[true, true, true, true, true, true, true, true, true, true, true, true, true, true, true, true, true, true, true, true, true, true, true, true, true, true, true, true, true, true, true, true, true, true, true, true, true, true, false, false] rfl rfl (one_of HT_.out (by kernel_rfl)) (by decide) (fun K hK => ?_)
          refine goes_ Try.func20 (by kernel_rfl) rfl #[.slice A195_2 ((rd_T53 l0 x5_1).f2).length c195_2, .slice A196_2 ((rd_T53 l1 x5_1).f2).length c196_2] (by rfl) rfl rfl (by (try simp only [List.map_toArray, List.map_cons, List.map_nil]); first | done | rfl | (simp only [List.length_drop, List.length_take]; rfl)) ?_
          with_reducible refine (ih k1 (by have := HK1.out; omega) _ _ ((rd_T53 l0 x5_1).f2) _ _ ((rd_T53 l1 x5_1).f2) false _ ?side1 ?side2 ?side3 ?side4 A9.out).mono ?_
          (case side1 => repeat (first | exact (Kd.C_below HR199_2.out HB.out) | (with_reducible refine Kd.C_alloc ?_ _) | (with_reducible refine Kd.C_drewN ?_ _) | (with_reducible refine Kd.C_drew ?_)))
          (case side2 => exact HC199_2.out)
          (case side3 => repeat (first | exact (Kd.C_below HR200_2.out HB.out) | (with_reducible refine Kd.C_alloc ?_ _) | (with_reducible refine Kd.C_drewN ?_ _) | (with_reducible refine Kd.C_drew ?_)))
          (case side4 => exact HC200_2.out)
          rintro e w20 ⟨rfl, hb⟩
          refine ⟨_, rfl, ?_⟩
          have n0_ := Aside0.mk (below_step (by repeat (first | (with_reducible first | exact HB.out | apply below_alloc | apply pw_below_drewN | apply below_drew1) | exact HB.out)) hb)
          clear HB
          have HB := n0_
          clear n0_
          (try clear hb)
          (try clear hb2)
          (try clear hk)
          (try clear hi)
          refine hK.out _ _ ⟨((HB.out.cell (World.block_lt_of_cell? w _ hw195_0)).trans hw195_0), ((HB.out.cell (World.block_lt_of_cell? w _ hw195_1)).trans hw195_1), ((HB.out.cell (World.block_lt_of_cell? w _ hw195_2)).trans hw195_2), ((HB.out.cell (World.block_lt_of_cell? w _ hw196_0)).trans hw196_0), ((HB.out.cell (World.block_lt_of_cell? w _ hw196_1)).trans hw196_1), ((HB.out.cell (World.block_lt_of_cell? w _ hw196_2)).trans hw196_2), ((HB.out.cell (World.block_lt_of_cell? w _ hw197_0)).trans hw197_0), ((HB.out.cell (World.block_lt_of_cell? w _ hw197_1)).trans hw197_1), ((HB.out.cell (World.block_lt_of_cell? w _ hw197_2)).trans hw197_2), ((HB.out.cell (World.block_lt_of_cell? w _ hw198_0)).trans hw198_0), ((HB.out.cell (World.block_lt_of_cell? w _ hw198_1)).trans hw198_1), ((HB.out.cell (World.block_lt_of_cell? w _ hw198_2)).trans hw198_2), ((HB.out.cell (World.block_lt_of_cell? w _ hw199_0)).trans hw199_0), ((HB.out.cell (World.block_lt_of_cell? w _ hw199_1)).trans hw199_1), ((HB.out.cell (World.block_lt_of_cell? w _ hw199_2)).trans hw199_2), ((HB.out.cell (World.block_lt_of_cell? w _ hw200_0)).trans hw200_0), ((HB.out.cell (World.block_lt_of_cell? w _ hw200_1)).trans hw200_1), ((HB.out.cell (World.block_lt_of_cell? w _ hw200_2)).trans hw200_2)⟩ (fun hHeld => ?_)
          clear hK K
          refine norm_ (a' := ?_) ?_ ?_
          rotate_left
          ·show Act.put _ (some 54) _ = _
           simp only [Act.put, List.setIfInBounds_toArray, List.set_cons_zero, List.set_cons_succ, i64_w, i32_w]
           rfl
          refine pure_ (i := 38) (N := some 55) (v := ?_) (a' := ?_) #[true, true, true, true, true, true, true, true, true, true, true, true, true, true, true, true, true, true, true, true, true, true, true, true, true, true, true, true, true, true, true, true, true, true, true, true, true, true, true, false] rfl rfl (any_of HT_.out (by kernel_rfl)) (fun _ _ _ h => h) (Or.inl ⟨by rfl, ?_⟩) ?_ ?_
          rotate_left
          ·intro w'
           go_simp
           with_reducible rfl
          rotate_left
          ·simp only [Act.put, List.setIfInBounds_toArray, List.set_cons_zero, List.set_cons_succ, i64_w, i32_w]
           rfl
          refine pure_ (i := 39) (N := some 56) (v := ?_) (a' := ?_) #[true, true, true, true, true, true, true, true, true, true, true, true, true, true, true, true, true, true, true, true, true, true, true, true, true, true, true, true, true, true, true, true, true, true, true, true, true, true, true, true] rfl rfl (any_of HT_.out (by kernel_rfl)) (fun _ _ _ h => h) (Or.inl ⟨by rfl, ?_⟩) ?_ ?_
          rotate_left
          ·intro w'
           go_simp
           with_reducible rfl
          rotate_left
          ·simp only [Act.put, List.setIfInBounds_toArray, List.set_cons_zero, List.set_cons_succ, i64_w, i32_w]
           rfl
          refine done_ (done_of HT_.out (by kernel_rfl)) ?_
          try go_wp2
          go_ret
          exact ⟨by first | rfl | (simp [errW_none, errW_some] <;> rfl) | (simp [*, errW_none, errW_some] <;> rfl), by repeat (first | (with_reducible first | exact HB.out | apply below_alloc | apply pw_below_drewN | apply below_drew1) | exact HB.out)⟩
        ·rw [if_neg c8] at H
         have c8b0 : ((strOfNums ((rd_T53 l0 x5_1).f1)).toList == (strOfNums ((rd_T53 l1 x5_1).f1)).toList) = false := beq_eq_false_iff_ne.mpr c8
         have c8b1 : ((strOfNums ((rd_T53 l0 x5_1).f1)).toList != (strOfNums ((rd_T53 l1 x5_1).f1)).toList) = true := bne_iff_ne.mpr c8
         obtain rfl := Option.some.inj H
         try go_wp2
         have n0_ := Aside0.mk (below_drew1 HB.out)
         clear HB
         have HB := n0_
         clear n0_
         have p195 : 0 ≤ (x5_1 : Int) := of_decide_eq_true (by first | (with_reducible assumption) | assumption)
         have q195 : x5_1 < (l0.length : Int) := of_decide_eq_true (by first | (with_reducible assumption) | assumption)
         obtain ⟨ad195, A195_1, c195_1, A195_2, c195_2, e195, hx195_0, hx195_1, hx195_2, hl195_1, hi195_1, hl195_2, hi195_2⟩ := at_T53 HR0.out x5_1 p195 q195
         have hw195_2 := hx195_2
         have hw195_1 := hx195_1
         have hw195_0 := hx195_0
         cases e195
         replace hx195_0 := (HB.out.cell (World.block_lt_of_cell? w _ hx195_0)).trans hx195_0
         replace hx195_1 := (HB.out.cell (World.block_lt_of_cell? w _ hx195_1)).trans hx195_1
         replace hx195_2 := (HB.out.cell (World.block_lt_of_cell? w _ hx195_2)).trans hx195_2
         have HR195_1 := Aside0.mk hi195_1
         have HC195_1 := Aside0.mk hl195_1
         clear hi195_1 hl195_1
         have HR195_2 := Aside0.mk hi195_2
         have HC195_2 := Aside0.mk hl195_2
         clear hi195_2 hl195_2
         replace p195 := eq_true p195
         replace q195 := eq_true q195
         have p196 : 0 ≤ (x5_1 : Int) := of_decide_eq_true (by first | (with_reducible assumption) | assumption)
         have q196 : x5_1 < (l1.length : Int) := of_decide_eq_true (by first | (with_reducible assumption) | assumption)
         obtain ⟨ad196, A196_1, c196_1, A196_2, c196_2, e196, hx196_0, hx196_1, hx196_2, hl196_1, hi196_1, hl196_2, hi196_2⟩ := at_T53 HR1.out x5_1 p196 q196
         have hw196_2 := hx196_2
         have hw196_1 := hx196_1
         have hw196_0 := hx196_0
         cases e196
         replace hx196_0 := (HB.out.cell (World.block_lt_of_cell? w _ hx196_0)).trans hx196_0
         replace hx196_1 := (HB.out.cell (World.block_lt_of_cell? w _ hx196_1)).trans hx196_1
         replace hx196_2 := (HB.out.cell (World.block_lt_of_cell? w _ hx196_2)).trans hx196_2
         have HR196_1 := Aside0.mk hi196_1
         have HC196_1 := Aside0.mk hl196_1
         clear hi196_1 hl196_1
         have HR196_2 := Aside0.mk hi196_2
         have HC196_2 := Aside0.mk hl196_2
         clear hi196_2 hl196_2
         replace p196 := eq_true p196
         replace q196 := eq_true q196
         have p197 : 0 ≤ (x5_1 : Int) := of_decide_eq_true (by first | (with_reducible assumption) | assumption)
         have q197 : x5_1 < (l0.length : Int) := of_decide_eq_true (by first | (with_reducible assumption) | assumption)
         obtain ⟨ad197, A197_1, c197_1, A197_2, c197_2, e197, hx197_0, hx197_1, hx197_2, hl197_1, hi197_1, hl197_2, hi197_2⟩ := at_T53 HR0.out x5_1 p197 q197
         have hw197_2 := hx197_2
         have hw197_1 := hx197_1
         have hw197_0 := hx197_0
         obtain rfl : ad195 = ad197 := (by injection e197)
         replace hx197_0 := (HB.out.cell (World.block_lt_of_cell? w _ hx197_0)).trans hx197_0
         replace hx197_1 := (HB.out.cell (World.block_lt_of_cell? w _ hx197_1)).trans hx197_1
         replace hx197_2 := (HB.out.cell (World.block_lt_of_cell? w _ hx197_2)).trans hx197_2
         have HR197_1 := Aside0.mk hi197_1
         have HC197_1 := Aside0.mk hl197_1
         clear hi197_1 hl197_1
         have HR197_2 := Aside0.mk hi197_2
         have HC197_2 := Aside0.mk hl197_2
         clear hi197_2 hl197_2
         replace p197 := eq_true p197
         replace q197 := eq_true q197
         have ea_ := Option.some.inj (hx195_1.symm.trans hx197_1)
         injection ea_ with ea_ en_ ec_
         subst ea_
         subst ec_
         clear en_
         have ea_ := Option.some.inj (hx195_2.symm.trans hx197_2)
         injection ea_ with ea_ en_ ec_
         subst ea_
         subst ec_
         clear en_
         have p198 : 0 ≤ (x5_1 : Int) := of_decide_eq_true (by first | (with_reducible assumption) | assumption)
         have q198 : x5_1 < (l1.length : Int) := of_decide_eq_true (by first | (with_reducible assumption) | assumption)
         obtain ⟨ad198, A198_1, c198_1, A198_2, c198_2, e198, hx198_0, hx198_1, hx198_2, hl198_1, hi198_1, hl198_2, hi198_2⟩ := at_T53 HR1.out x5_1 p198 q198
         have hw198_2 := hx198_2
         have hw198_1 := hx198_1
         have hw198_0 := hx198_0
         obtain rfl : ad196 = ad198 := (by injection e198)
         replace hx198_0 := (HB.out.cell (World.block_lt_of_cell? w _ hx198_0)).trans hx198_0
         replace hx198_1 := (HB.out.cell (World.block_lt_of_cell? w _ hx198_1)).trans hx198_1
         replace hx198_2 := (HB.out.cell (World.block_lt_of_cell? w _ hx198_2)).trans hx198_2
         have HR198_1 := Aside0.mk hi198_1
         have HC198_1 := Aside0.mk hl198_1
         clear hi198_1 hl198_1
         have HR198_2 := Aside0.mk hi198_2
         have HC198_2 := Aside0.mk hl198_2
         clear hi198_2 hl198_2
         replace p198 := eq_true p198
         replace q198 := eq_true q198
         have ea_ := Option.some.inj (hx196_1.symm.trans hx198_1)
         injection ea_ with ea_ en_ ec_
         subst ea_
         subst ec_
         clear en_
         have ea_ := Option.some.inj (hx196_2.symm.trans hx198_2)
         injection ea_ with ea_ en_ ec_
         subst ea_
         subst ec_
         clear en_
         refine start_ (n := 40) (S := fun w' => w'.cell? (ad195.add ((x5_1).toNat * 3)) = some (.int .i64 ((rd_T53 l0 x5_1).f0)) ∧ w'.cell? ⟨(ad195.add ((x5_1).toNat * 3)).block, (ad195.add ((x5_1).toNat * 3)).off + 1, none⟩ = some (.slice A195_1 ((rd_T53 l0 x5_1).f1).length c195_1) ∧ w'.cell? ⟨(ad195.add ((x5_1).toNat * 3)).block, (ad195.add ((x5_1).toNat * 3)).off + 2, none⟩ = some (.slice A195_2 ((rd_T53 l0 x5_1).f2).length c195_2) ∧ w'.cell? (ad196.add ((x5_1).toNat * 3)) = some (.int .i64 ((rd_T53 l1 x5_1).f0)) ∧ w'.cell? ⟨(ad196.add ((x5_1).toNat * 3)).block, (ad196.add ((x5_1).toNat * 3)).off + 1, none⟩ = some (.slice A196_1 ((rd_T53 l1 x5_1).f1).length c196_1) ∧ w'.cell? ⟨(ad196.add ((x5_1).toNat * 3)).block, (ad196.add ((x5_1).toNat * 3)).off + 2, none⟩ = some (.slice A196_2 ((rd_T53 l1 x5_1).f2).length c196_2) ∧ w'.cell? (ad195.add ((x5_1).toNat * 3)) = some (.int .i64 ((rd_T53 l0 x5_1).f0)) ∧ w'.cell? ⟨(ad195.add ((x5_1).toNat * 3)).block, (ad195.add ((x5_1).toNat * 3)).off + 1, none⟩ = some (.slice A195_1 ((rd_T53 l0 x5_1).f1).length c195_1) ∧ w'.cell? ⟨(ad195.add ((x5_1).toNat * 3)).block, (ad195.add ((x5_1).toNat * 3)).off + 2, none⟩ = some (.slice A195_2 ((rd_T53 l0 x5_1).f2).length c195_2) ∧ w'.cell? (ad196.add ((x5_1).toNat * 3)) = some (.int .i64 ((rd_T53 l1 x5_1).f0)) ∧ w'.cell? ⟨(ad196.add ((x5_1).toNat * 3)).block, (ad196.add ((x5_1).toNat * 3)).off + 1, none⟩ = some (.slice A196_1 ((rd_T53 l1 x5_1).f1).length c196_1) ∧ w'.cell? ⟨(ad196.add ((x5_1).toNat * 3)).block, (ad196.add ((x5_1).toNat * 3)).off + 2, none⟩ = some (.slice A196_2 ((rd_T53 l1 x5_1).f2).length c196_2)) (ds := []) #[false, false, false, false, false, false, false, false, false, false, false, false, false, false, false, false, false, false, false, false, false, false, false, false, false, false, false, false, false, false, false, false, false, false, false, false, false, false, false, false] (by kernel_rfl) rfl rfl ⟨((HB.out.cell (World.block_lt_of_cell? w _ hw195_0)).trans hw195_0), ((HB.out.cell (World.block_lt_of_cell? w _ hw195_1)).trans hw195_1), ((HB.out.cell (World.block_lt_of_cell? w _ hw195_2)).trans hw195_2), ((HB.out.cell (World.block_lt_of_cell? w _ hw196_0)).trans hw196_0), ((HB.out.cell (World.block_lt_of_cell? w _ hw196_1)).trans hw196_1), ((HB.out.cell (World.block_lt_of_cell? w _ hw196_2)).trans hw196_2), ((HB.out.cell (World.block_lt_of_cell? w _ hw197_0)).trans hw197_0), ((HB.out.cell (World.block_lt_of_cell? w _ hw197_1)).trans hw197_1), ((HB.out.cell (World.block_lt_of_cell? w _ hw197_2)).trans hw197_2), ((HB.out.cell (World.block_lt_of_cell? w _ hw198_0)).trans hw198_0), ((HB.out.cell (World.block_lt_of_cell? w _ hw198_1)).trans hw198_1), ((HB.out.cell (World.block_lt_of_cell? w _ hw198_2)).trans hw198_2)⟩ (fun hHeld => ?_); refine with_tabW substationref10_Same.tab6 substationref10_Same.bits6 (fun HT_ HW_ => ?_)
         generalize wr.drew = w21 at HB HR195_1 HR195_2 HR196_1 HR196_2 HR197_1 HR197_2 HR198_1 HR198_2 hx195_0 hx195_1 hx195_2 hx196_0 hx196_1 hx196_2 hx197_0 hx197_1 hx197_2 hx198_0 hx198_1 hx198_2 hHeld ⊢
         refine pure_ (i := 0) (N := some 17) (v := ?_) (a' := ?_) #[true, false, false, false, false, false, false, false, false, false, false, false, false, false, false, false, false, false, false, false, false, false, false, false, false, false, false, false, false, false, false, false, false, false, false, false, false, false, false, false] rfl rfl (any_of HT_.out (by kernel_rfl)) (fun _ _ _ h => h) (Or.inl ⟨by rfl, ?_⟩) ?_ ?_
         rotate_left
         ·intro w'
          go_simp
          with_reducible rfl
         rotate_left
         ·simp only [Act.put, List.setIfInBounds_toArray, List.set_cons_zero, List.set_cons_succ, i64_w, i32_w]
          rfl
         refine pure_ (i := 1) (N := some 18) (v := ?_) (a' := ?_) #[true, true, false, false, false, false, false, false, false, false, false, false, false, false, false, false, false, false, false, false, false, false, false, false, false, false, false, false, false, false, false, false, false, false, false, false, false, false, false, false] rfl rfl (any_of HT_.out (by kernel_rfl)) (fun _ _ _ h => h) (Or.inl ⟨by rfl, ?_⟩) ?_ ?_
         rotate_left
         ·intro w'
          go_simp
          with_reducible rfl
         rotate_left
         ·simp only [Act.put, List.setIfInBounds_toArray, List.set_cons_zero, List.set_cons_succ, i64_w, i32_w]
          rfl
         refine pure_ (i := 2) (N := some 19) (v := ?_) (a' := ?_) #[true, true, true, false, false, false, false, false, false, false, false, false, false, false, false, false, false, false, false, false, false, false, false, false, false, false, false, false, false, false, false, false, false, false, false, false, false, false, false, false] rfl rfl (any_of HT_.out (by kernel_rfl)) (fun _ _ _ h => h) (Or.inl ⟨by rfl, ?_⟩) ?_ ?_
         rotate_left
         ·intro w'
          go_simp
          with_reducible rfl
         rotate_left
         ·simp only [Act.put, List.setIfInBounds_toArray, List.set_cons_zero, List.set_cons_succ, i64_w, i32_w]
          rfl
         refine pure_ (i := 3) (N := some 20) (v := ?_) (a' := ?_) #[true, true, true, true, false, false, false, false, false, false, false, false, false, false, false, false, false, false, false, false, false, false, false, false, false, false, false, false, false, false, false, false, false, false, false, false, false, false, false, false] rfl rfl (any_of HT_.out (by kernel_rfl)) (fun _ _ _ h => h) (Or.inl ⟨by rfl, ?_⟩) ?_ ?_
         rotate_left
         ·intro w'
          go_simp
          with_reducible rfl
         rotate_left
         ·simp only [Act.put, List.setIfInBounds_toArray, List.set_cons_zero, List.set_cons_succ, i64_w, i32_w]
          rfl
         refine pure_ (i := 5) (N := some 22) (v := ?_) (a' := ?_) #[true, true, true, true, false, true, false, false, false, false, false, false, false, false, false, false, false, false, false, false, false, false, false, false, false, false, false, false, false, false, false, false, false, false, false, false, false, false, false, false] rfl rfl (any_of HT_.out (by kernel_rfl)) (fun _ _ _ h => h) (Or.inl ⟨by rfl, ?_⟩) ?_ ?_
         rotate_left
         ·intro w'
          go_simp
          with_reducible rfl
         rotate_left
         ·simp only [Act.put, List.setIfInBounds_toArray, List.set_cons_zero, List.set_cons_succ, i64_w, i32_w]
          rfl
         refine pure_ (i := 6) (N := some 23) (v := ?_) (a' := ?_) #[true, true, true, true, false, true, true, false, false, false, false, false, false, false, false, false, false, false, false, false, false, false, false, false, false, false, false, false, false, false, false, false, false, false, false, false, false, false, false, false] rfl rfl (any_of HT_.out (by kernel_rfl)) (fun _ _ _ h => h) (Or.inl ⟨by rfl, ?_⟩) ?_ ?_
         rotate_left
         ·intro w'
          go_simp
          with_reducible rfl
         rotate_left
         ·simp only [Act.put, List.setIfInBounds_toArray, List.set_cons_zero, List.set_cons_succ, i64_w, i32_w]
          rfl
         refine pure_ (i := 7) (N := some 24) (v := ?_) (a' := ?_) #[true, true, true, true, false, true, true, true, false, false, false, false, false, false, false, false, false, false, false, false, false, false, false, false, false, false, false, false, false, false, false, false, false, false, false, false, false, false, false, false] rfl rfl (any_of HT_.out (by kernel_rfl)) (fun _ _ _ h => h) (Or.inl ⟨by rfl, ?_⟩) ?_ ?_
         rotate_left
         ·intro w'
          go_simp
          with_reducible rfl
         rotate_left
         ·simp only [Act.put, List.setIfInBounds_toArray, List.set_cons_zero, List.set_cons_succ, i64_w, i32_w]
          rfl
         refine pure_ (i := 8) (N := some 25) (v := ?_) (a' := ?_) #[true, true, true, true, false, true, true, true, true, false, false, false, false, false, false, false, false, false, false, false, false, false, false, false, false, false, false, false, false, false, false, false, false, false, false, false, false, false, false, false] rfl rfl (any_of HT_.out (by kernel_rfl)) (fun _ _ _ h => h) (Or.inl ⟨by rfl, ?_⟩) ?_ ?_
         rotate_left
         ·intro w'
          go_simp
          with_reducible rfl
         rotate_left
         ·simp only [Act.put, List.setIfInBounds_toArray, List.set_cons_zero, List.set_cons_succ, i64_w, i32_w]
          rfl
         refine take_ (i := 4) (N := some 21) (v := ?_) (a' := ?_) #[true, true, true, true, true, true, true, true, true, false, false, false, false, false, false, false, false, false, false, false, false, false, false, false, false, false, false, false, false, false, false, false, false, false, false, false, false, false, false, false] rfl rfl (take_ofW HT_.out HW_.out (by kernel_rfl)) (fun _ _ _ h => h) (Or.inl ⟨by rfl, ?_⟩) hHeld ?_ ?_
         rotate_left
         ·rintro w' ⟨s0, s1, s2, s3, s4, s5, s6, s7, s8, s9, s10, s11⟩
          go_simp
          with_reducible rfl
         rotate_left
         ·simp only [Act.put, List.setIfInBounds_toArray, List.set_cons_zero, List.set_cons_succ, i64_w, i32_w]
          rfl
         refine take_ (i := 9) (N := some 26) (v := ?_) (a' := ?_) #[true, true, true, true, true, true, true, true, true, true, false, false, false, false, false, false, false, false, false, false, false, false, false, false, false, false, false, false, false, false, false, false, false, false, false, false, false, false, false, false] rfl rfl (take_ofW HT_.out HW_.out (by kernel_rfl)) (fun _ _ _ h => h) (Or.inl ⟨by rfl, ?_⟩) hHeld ?_ ?_
         rotate_left
         ·rintro w' ⟨s0, s1, s2, s3, s4, s5, s6, s7, s8, s9, s10, s11⟩
          go_simp
          with_reducible rfl
         rotate_left
         ·simp only [Act.put, List.setIfInBounds_toArray, List.set_cons_zero, List.set_cons_succ, i64_w, i32_w]
          rfl
         refine pure_ (i := 10) (N := some 27) (v := ?_) (a' := ?_) #[true, true, true, true, true, true, true, true, true, true, true, false, false, false, false, false, false, false, false, false, false, false, false, false, false, false, false, false, false, false, false, false, false, false, false, false, false, false, false, false] rfl rfl (any_of HT_.out (by kernel_rfl)) (fun _ _ _ h => h) (Or.inl ⟨by rfl, ?_⟩) ?_ ?_
         rotate_left
         ·intro w'
          go_simp
          with_reducible rfl
         rotate_left
         ·simp only [Act.put, List.setIfInBounds_toArray, List.set_cons_zero, List.set_cons_succ, i64_w, i32_w]
          rfl
         refine pure_ (i := 11) (N := some 28) (v := ?_) (a' := ?_) #[true, true, true, true, true, true, true, true, true, true, true, true, false, false, false, false, false, false, false, false, false, false, false, false, false, false, false, false, false, false, false, false, false, false, false, false, false, false, false, false] rfl rfl (any_of HT_.out (by kernel_rfl)) (fun _ _ _ h => h) (Or.inl ⟨by rfl, ?_⟩) ?_ ?_
         rotate_left
         ·intro w'
          go_simp
          with_reducible rfl
         rotate_left
         ·simp only [Act.put, List.setIfInBounds_toArray, List.set_cons_zero, List.set_cons_succ, i64_w, i32_w]
          rfl
         refine pure_ (i := 12) (N := some 29) (v := ?_) (a' := ?_) #[true, true, true, true, true, true, true, true, true, true, true, true, true, false, false, false, false, false, false, false, false, false, false, false, false, false, false, false, false, false, false, false, false, false, false, false, false, false, false, false] rfl rfl (any_of HT_.out (by kernel_rfl)) (fun _ _ _ h => h) (Or.inl ⟨by rfl, ?_⟩) ?_ ?_
         rotate_left
         ·intro w'
          go_simp
          with_reducible rfl
         rotate_left
         ·simp only [Act.put, List.setIfInBounds_toArray, List.set_cons_zero, List.set_cons_succ, i64_w, i32_w]
          rfl
         refine pure_ (i := 13) (N := some 30) (v := ?_) (a' := ?_) #[true, true, true, true, true, true, true, true, true, true, true, true, true, true, false, false, false, false, false, false, false, false, false, false, false, false, false, false, false, false, false, false, false, false, false, false, false, false, false, false] rfl rfl (any_of HT_.out (by kernel_rfl)) (fun _ _ _ h => h) (Or.inl ⟨by rfl, ?_⟩) ?_ ?_
         rotate_left
         ·intro w'
          go_simp
          with_reducible rfl
         rotate_left
         ·simp only [Act.put, List.setIfInBounds_toArray, List.set_cons_zero, List.set_cons_succ, i64_w, i32_w]
          rfl
         refine pure_ (i := 14) (N := some 31) (v := ?_) (a' := ?_) #[true, true, true, true, true, true, true, true, true, true, true, true, true, true, true, false, false, false, false, false, false, false, false, false, false, false, false, false, false, false, false, false, false, false, false, false, false, false, false, false] rfl rfl (any_of HT_.out (by kernel_rfl)) (fun _ _ _ h => h) (Or.inl ⟨by rfl, ?_⟩) ?_ ?_
         rotate_left
         ·intro w'
          go_simp
          with_reducible rfl
         rotate_left
         ·simp only [Act.put, List.setIfInBounds_toArray, List.set_cons_zero, List.set_cons_succ, i64_w, i32_w]
          rfl
         refine pure_ (i := 15) (N := some 32) (v := ?_) (a' := ?_) #[true, true, true, true, true, true, true, true, true, true, true, true, true, true, true, true, false, false, false, false, false, false, false, false, false, false, false, false, false, false, false, false, false, false, false, false, false, false, false, false] rfl rfl (any_of HT_.out (by kernel_rfl)) (fun _ _ _ h => h) (Or.inl ⟨by rfl, ?_⟩) ?_ ?_
         rotate_left
         ·intro w'
          go_simp
          with_reducible rfl
         rotate_left
         ·simp only [Act.put, List.setIfInBounds_toArray, List.set_cons_zero, List.set_cons_succ, i64_w, i32_w]
          rfl
         refine pure_ (i := 18) (N := some 35) (v := ?_) (a' := ?_) #[true, true, true, true, true, true, true, true, true, true, true, true, true, true, true, true, false, false, true, false, false, false, false, false, false, false, false, false, false, false, false, false, false, false, false, false, false, false, false, false] rfl rfl (any_of HT_.out (by kernel_rfl)) (fun _ _ _ h => h) (Or.inl ⟨by rfl, ?_⟩) ?_ ?_
         rotate_left
         ·intro w'
          go_simp
          with_reducible rfl
         rotate_left
         ·simp only [Act.put, List.setIfInBounds_toArray, List.set_cons_zero, List.set_cons_succ, i64_w, i32_w]
          rfl
         refine pure_ (i := 19) (N := some 36) (v := ?_) (a' := ?_) #[true, true, true, true, true, true, true, true, true, true, true, true, true, true, true, true, false, false, true, true, false, false, false, false, false, false, false, false, false, false, false, false, false, false, false, false, false, false, false, false] rfl rfl (any_of HT_.out (by kernel_rfl)) (fun _ _ _ h => h) (Or.inl ⟨by rfl, ?_⟩) ?_ ?_
         rotate_left
         ·intro w'
          go_simp
          with_reducible rfl
         rotate_left
         ·simp only [Act.put, List.setIfInBounds_toArray, List.set_cons_zero, List.set_cons_succ, i64_w, i32_w]
          rfl
         refine pure_ (i := 20) (N := some 37) (v := ?_) (a' := ?_) #[true, true, true, true, true, true, true, true, true, true, true, true, true, true, true, true, false, false, true, true, true, false, false, false, false, false, false, false, false, false, false, false, false, false, false, false, false, false, false, false] rfl rfl (any_of HT_.out (by kernel_rfl)) (fun _ _ _ h => h) (Or.inl ⟨by rfl, ?_⟩) ?_ ?_
         rotate_left
         ·intro w'
          go_simp
          with_reducible rfl
         rotate_left
         ·simp only [Act.put, List.setIfInBounds_toArray, List.set_cons_zero, List.set_cons_succ, i64_w, i32_w]
          rfl
         refine pure_ (i := 21) (N := some 38) (v := ?_) (a' := ?_) #[true, true, true, true, true, true, true, true, true, true, true, true, true, true, true, true, false, false, true, true, true, true, false, false, false, false, false, false, false, false, false, false, false, false, false, false, false, false, false, false] rfl rfl (any_of HT_.out (by kernel_rfl)) (fun _ _ _ h => h) (Or.inl ⟨by rfl, ?_⟩) ?_ ?_
         rotate_left
         ·intro w'
          go_simp
          with_reducible rfl
         rotate_left
         ·simp only [Act.put, List.setIfInBounds_toArray, List.set_cons_zero, List.set_cons_succ, i64_w, i32_w]
          rfl
         refine take_ (i := 16) (N := some 33) (v := ?_) (a' := ?_) #[true, true, true, true, true, true, true, true, true, true, true, true, true, true, true, true, true, false, true, true, true, true, false, false, false, false, false, false, false, false, false, false, false, false, false, false, false, false, false, false] rfl rfl (take_ofW HT_.out HW_.out (by kernel_rfl)) (fun _ _ _ h => h) (Or.inl ⟨by rfl, ?_⟩) hHeld ?_ ?_
         rotate_left
         ·rintro w' ⟨s0, s1, s2, s3, s4, s5, s6, s7, s8, s9, s10, s11⟩
          go_simp
          with_reducible rfl
         rotate_left
         ·simp only [Act.put, List.setIfInBounds_toArray, List.set_cons_zero, List.set_cons_succ, i64_w, i32_w]
          rfl
         refine take_ (i := 22) (N := some 39) (v := ?_) (a' := ?_) #[true, true, true, true, true, true, true, true, true, true, true, true, true, true, true, true, true, false, true, true, true, true, true, false, false, false, false, false, false, false, false, false, false, false, false, false, false, false, false, false] rfl rfl (take_ofW HT_.out HW_.out (by kernel_rfl)) (fun _ _ _ h => h) (Or.inl ⟨by rfl, ?_⟩) hHeld ?_ ?_
         rotate_left
         ·rintro w' ⟨s0, s1, s2, s3, s4, s5, s6, s7, s8, s9, s10, s11⟩
          go_simp
          with_reducible rfl
         rotate_left
         ·simp only [Act.put, List.setIfInBounds_toArray, List.set_cons_zero, List.set_cons_succ, i64_w, i32_w]
          rfl
         refine join_ (σ := Unit) 16 #[true, true, true, true, true, true, true, true, true, true, true, true, true, true, true, true, true, true, true, true, true, true, true, true, false, false, false, false, false, false, false, false, false, false, false, false, false, false, false, false] (fun s_ => [(34, .string (strOfNums ((rd_T53 l0 x5_1).f1))), (40, .string (strOfNums ((rd_T53 l1 x5_1).f1)))]) (fun s_ w' => (w'.cell? (ad195.add ((x5_1).toNat * 3)) = some (.int .i64 ((rd_T53 l0 x5_1).f0)) ∧ w'.cell? ⟨(ad195.add ((x5_1).toNat * 3)).block, (ad195.add ((x5_1).toNat * 3)).off + 1, none⟩ = some (.slice A195_1 ((rd_T53 l0 x5_1).f1).length c195_1) ∧ w'.cell? ⟨(ad195.add ((x5_1).toNat * 3)).block, (ad195.add ((x5_1).toNat * 3)).off + 2, none⟩ = some (.slice A195_2 ((rd_T53 l0 x5_1).f2).length c195_2) ∧ w'.cell? (ad196.add ((x5_1).toNat * 3)) = some (.int .i64 ((rd_T53 l1 x5_1).f0)) ∧ w'.cell? ⟨(ad196.add ((x5_1).toNat * 3)).block, (ad196.add ((x5_1).toNat * 3)).off + 1, none⟩ = some (.slice A196_1 ((rd_T53 l1 x5_1).f1).length c196_1) ∧ w'.cell? ⟨(ad196.add ((x5_1).toNat * 3)).block, (ad196.add ((x5_1).toNat * 3)).off + 2, none⟩ = some (.slice A196_2 ((rd_T53 l1 x5_1).f2).length c196_2) ∧ w'.cell? (ad195.add ((x5_1).toNat * 3)) = some (.int .i64 ((rd_T53 l0 x5_1).f0)) ∧ w'.cell? ⟨(ad195.add ((x5_1).toNat * 3)).block, (ad195.add ((x5_1).toNat * 3)).off + 1, none⟩ = some (.slice A195_1 ((rd_T53 l0 x5_1).f1).length c195_1) ∧ w'.cell? ⟨(ad195.add ((x5_1).toNat * 3)).block, (ad195.add ((x5_1).toNat * 3)).off + 2, none⟩ = some (.slice A195_2 ((rd_T53 l0 x5_1).f2).length c195_2) ∧ w'.cell? (ad196.add ((x5_1).toNat * 3)) = some (.int .i64 ((rd_T53 l1 x5_1).f0)) ∧ w'.cell? ⟨(ad196.add ((x5_1).toNat * 3)).block, (ad196.add ((x5_1).toNat * 3)).off + 1, none⟩ = some (.slice A196_1 ((rd_T53 l1 x5_1).f1).length c196_1) ∧ w'.cell? ⟨(ad196.add ((x5_1).toNat * 3)).block, (ad196.add ((x5_1).toNat * 3)).off + 2, none⟩ = some (.slice A196_2 ((rd_T53 l1 x5_1).f2).length c196_2)) ∧ (Below w.heap.size w w')) ?_ ?_
         rotate_left
         ·intro hCont
          refine two_ (i := 17) (j := 23) (Ni := some 34) (Nj := some 40) #[true, true, true, true, true, true, true, true, true, true, true, true, true, true, true, true, true, true, true, true, true, true, true, false, false, false, false, false, false, false, false, false, false, false, false, false, false, false, false, false] #[true, true, true, true, true, true, true, true, true, true, true, true, true, true, true, true, true, false, true, true, true, true, true, true, false, false, false, false, false, false, false, false, false, false, false, false, false, false, false, false] rfl rfl rfl rfl (two_of HT_.out (by kernel_rfl)) (by decide) (by decide) (fun K hK => ?_) (fun K hK => ?_)
          ·skip
           have hcv22 := Kd.C_string (P := Try.prog) (A := A195_1) (c := c195_1) Try.underlying22 Try.underlying5 Try.underlying9 (Kd.C_below HR197_1.out HB.out)
           refine value_ (w1 := ?_) (v := ?_) (by rfl) rfl ?_ ?_
           rotate_left 2
           ·go_simp
            constructor
            ·rfl
            ·rfl
           clear hcv22
           refine hK.out _ _ ⟨((HB.out.cell (World.block_lt_of_cell? w _ hw195_0)).trans hw195_0), ((HB.out.cell (World.block_lt_of_cell? w _ hw195_1)).trans hw195_1), ((HB.out.cell (World.block_lt_of_cell? w _ hw195_2)).trans hw195_2), ((HB.out.cell (World.block_lt_of_cell? w _ hw196_0)).trans hw196_0), ((HB.out.cell (World.block_lt_of_cell? w _ hw196_1)).trans hw196_1), ((HB.out.cell (World.block_lt_of_cell? w _ hw196_2)).trans hw196_2), ((HB.out.cell (World.block_lt_of_cell? w _ hw197_0)).trans hw197_0), ((HB.out.cell (World.block_lt_of_cell? w _ hw197_1)).trans hw197_1), ((HB.out.cell (World.block_lt_of_cell? w _ hw197_2)).trans hw197_2), ((HB.out.cell (World.block_lt_of_cell? w _ hw198_0)).trans hw198_0), ((HB.out.cell (World.block_lt_of_cell? w _ hw198_1)).trans hw198_1), ((HB.out.cell (World.block_lt_of_cell? w _ hw198_2)).trans hw198_2)⟩ (fun hHeld => ?_)
           clear hK K
           refine norm_ (a' := ?_) ?_ ?_
           rotate_left
           ·show Act.put _ (some 34) _ = _
            simp only [Act.put, List.setIfInBounds_toArray, List.set_cons_zero, List.set_cons_succ, i64_w, i32_w]
            rfl
           refine one_ (i := 23) (N := some 40) #[true, true, true, true, true, true, true, true, true, true, true, true, true, true, true, true, true, true, true, true, true, true, true, true, false, false, false, false, false, false, false, false, false, false, false, false, false, false, false, false] rfl rfl (one_of HT_.out (by kernel_rfl)) (by decide) (fun K hK => ?_)
           have hcv23 := Kd.C_string (P := Try.prog) (A := A196_1) (c := c196_1) Try.underlying22 Try.underlying5 Try.underlying9 (Kd.C_below HR198_1.out HB.out)
           refine value_ (w1 := ?_) (v := ?_) (by rfl) rfl ?_ ?_
           rotate_left 2
           ·go_simp
            constructor
            ·rfl
            ·rfl
           clear hcv23
           refine hK.out _ _ ⟨((HB.out.cell (World.block_lt_of_cell? w _ hw195_0)).trans hw195_0), ((HB.out.cell (World.block_lt_of_cell? w _ hw195_1)).trans hw195_1), ((HB.out.cell (World.block_lt_of_cell? w _ hw195_2)).trans hw195_2), ((HB.out.cell (World.block_lt_of_cell? w _ hw196_0)).trans hw196_0), ((HB.out.cell (World.block_lt_of_cell? w _ hw196_1)).trans hw196_1), ((HB.out.cell (World.block_lt_of_cell? w _ hw196_2)).trans hw196_2), ((HB.out.cell (World.block_lt_of_cell? w _ hw197_0)).trans hw197_0), ((HB.out.cell (World.block_lt_of_cell? w _ hw197_1)).trans hw197_1), ((HB.out.cell (World.block_lt_of_cell? w _ hw197_2)).trans hw197_2), ((HB.out.cell (World.block_lt_of_cell? w _ hw198_0)).trans hw198_0), ((HB.out.cell (World.block_lt_of_cell? w _ hw198_1)).trans hw198_1), ((HB.out.cell (World.block_lt_of_cell? w _ hw198_2)).trans hw198_2)⟩ (fun hHeld => ?_)
           clear hK K
           refine norm_ (a' := ?_) ?_ ?_
           rotate_left
           ·show Act.put _ (some 40) _ = _
            simp only [Act.put, List.setIfInBounds_toArray, List.set_cons_zero, List.set_cons_succ, i64_w, i32_w]
            rfl
           exact norm_ (by simp only [putAll, Act.put, List.setIfInBounds_toArray, List.set_cons_zero, List.set_cons_succ]) (hCont () _ ⟨hHeld, (by repeat (first | (with_reducible first | exact HB.out | apply below_alloc | apply pw_below_drewN | apply below_drew1) | exact HB.out))⟩)
          ·skip
           have hcv22 := Kd.C_string (P := Try.prog) (A := A196_1) (c := c196_1) Try.underlying22 Try.underlying5 Try.underlying9 (Kd.C_below HR198_1.out HB.out)
           refine value_ (w1 := ?_) (v := ?_) (by rfl) rfl ?_ ?_
           rotate_left 2
           ·go_simp
            constructor
            ·rfl
            ·rfl
           clear hcv22
           refine hK.out _ _ ⟨((HB.out.cell (World.block_lt_of_cell? w _ hw195_0)).trans hw195_0), ((HB.out.cell (World.block_lt_of_cell? w _ hw195_1)).trans hw195_1), ((HB.out.cell (World.block_lt_of_cell? w _ hw195_2)).trans hw195_2), ((HB.out.cell (World.block_lt_of_cell? w _ hw196_0)).trans hw196_0), ((HB.out.cell (World.block_lt_of_cell? w _ hw196_1)).trans hw196_1), ((HB.out.cell (World.block_lt_of_cell? w _ hw196_2)).trans hw196_2), ((HB.out.cell (World.block_lt_of_cell? w _ hw197_0)).trans hw197_0), ((HB.out.cell (World.block_lt_of_cell? w _ hw197_1)).trans hw197_1), ((HB.out.cell (World.block_lt_of_cell? w _ hw197_2)).trans hw197_2), ((HB.out.cell (World.block_lt_of_cell? w _ hw198_0)).trans hw198_0), ((HB.out.cell (World.block_lt_of_cell? w _ hw198_1)).trans hw198_1), ((HB.out.cell (World.block_lt_of_cell? w _ hw198_2)).trans hw198_2)⟩ (fun hHeld => ?_)
           clear hK K
           refine norm_ (a' := ?_) ?_ ?_
           rotate_left
           ·show Act.put _ (some 40) _ = _
            simp only [Act.put, List.setIfInBounds_toArray, List.set_cons_zero, List.set_cons_succ, i64_w, i32_w]
            rfl
           refine one_ (i := 17) (N := some 34) #[true, true, true, true, true, true, true, true, true, true, true, true, true, true, true, true, true, true, true, true, true, true, true, true, false, false, false, false, false, false, false, false, false, false, false, false, false, false, false, false] rfl rfl (one_of HT_.out (by kernel_rfl)) (by decide) (fun K hK => ?_)
           have hcv23 := Kd.C_string (P := Try.prog) (A := A195_1) (c := c195_1) Try.underlying22 Try.underlying5 Try.underlying9 (Kd.C_below HR197_1.out HB.out)
           refine value_ (w1 := ?_) (v := ?_) (by rfl) rfl ?_ ?_
           rotate_left 2
           ·go_simp
            constructor
            ·rfl
            ·rfl
           clear hcv23
           refine hK.out _ _ ⟨((HB.out.cell (World.block_lt_of_cell? w _ hw195_0)).trans hw195_0), ((HB.out.cell (World.block_lt_of_cell? w _ hw195_1)).trans hw195_1), ((HB.out.cell (World.block_lt_of_cell? w _ hw195_2)).trans hw195_2), ((HB.out.cell (World.block_lt_of_cell? w _ hw196_0)).trans hw196_0), ((HB.out.cell (World.block_lt_of_cell? w _ hw196_1)).trans hw196_1), ((HB.out.cell (World.block_lt_of_cell? w _ hw196_2)).trans hw196_2), ((HB.out.cell (World.block_lt_of_cell? w _ hw197_0)).trans hw197_0), ((HB.out.cell (World.block_lt_of_cell? w _ hw197_1)).trans hw197_1), ((HB.out.cell (World.block_lt_of_cell? w _ hw197_2)).trans hw197_2), ((HB.out.cell (World.block_lt_of_cell? w _ hw198_0)).trans hw198_0), ((HB.out.cell (World.block_lt_of_cell? w _ hw198_1)).trans hw198_1), ((HB.out.cell (World.block_lt_of_cell? w _ hw198_2)).trans hw198_2)⟩ (fun hHeld => ?_)
           clear hK K
           refine norm_ (a' := ?_) ?_ ?_
           rotate_left
           ·show Act.put _ (some 34) _ = _
            simp only [Act.put, List.setIfInBounds_toArray, List.set_cons_zero, List.set_cons_succ, i64_w, i32_w]
            rfl
           exact norm_ (by simp only [putAll, Act.put, List.setIfInBounds_toArray, List.set_cons_zero, List.set_cons_succ]) (hCont () _ ⟨hHeld, (by repeat (first | (with_reducible first | exact HB.out | apply below_alloc | apply pw_below_drewN | apply below_drew1) | exact HB.out))⟩)
         rintro _ w24 ⟨hS_, h0_⟩
         have n0_ : Aside0 (Below w.heap.size w w24) := ⟨h0_⟩
         clear HB
         clear h0_
         have HB := n0_
         clear n0_
         have hHeld : w24.cell? (ad195.add ((x5_1).toNat * 3)) = some (.int .i64 ((rd_T53 l0 x5_1).f0)) ∧ w24.cell? ⟨(ad195.add ((x5_1).toNat * 3)).block, (ad195.add ((x5_1).toNat * 3)).off + 1, none⟩ = some (.slice A195_1 ((rd_T53 l0 x5_1).f1).length c195_1) ∧ w24.cell? ⟨(ad195.add ((x5_1).toNat * 3)).block, (ad195.add ((x5_1).toNat * 3)).off + 2, none⟩ = some (.slice A195_2 ((rd_T53 l0 x5_1).f2).length c195_2) ∧ w24.cell? (ad196.add ((x5_1).toNat * 3)) = some (.int .i64 ((rd_T53 l1 x5_1).f0)) ∧ w24.cell? ⟨(ad196.add ((x5_1).toNat * 3)).block, (ad196.add ((x5_1).toNat * 3)).off + 1, none⟩ = some (.slice A196_1 ((rd_T53 l1 x5_1).f1).length c196_1) ∧ w24.cell? ⟨(ad196.add ((x5_1).toNat * 3)).block, (ad196.add ((x5_1).toNat * 3)).off + 2, none⟩ = some (.slice A196_2 ((rd_T53 l1 x5_1).f2).length c196_2) ∧ w24.cell? (ad195.add ((x5_1).toNat * 3)) = some (.int .i64 ((rd_T53 l0 x5_1).f0)) ∧ w24.cell? ⟨(ad195.add ((x5_1).toNat * 3)).block, (ad195.add ((x5_1).toNat * 3)).off + 1, none⟩ = some (.slice A195_1 ((rd_T53 l0 x5_1).f1).length c195_1) ∧ w24.cell? ⟨(ad195.add ((x5_1).toNat * 3)).block, (ad195.add ((x5_1).toNat * 3)).off + 2, none⟩ = some (.slice A195_2 ((rd_T53 l0 x5_1).f2).length c195_2) ∧ w24.cell? (ad196.add ((x5_1).toNat * 3)) = some (.int .i64 ((rd_T53 l1 x5_1).f0)) ∧ w24.cell? ⟨(ad196.add ((x5_1).toNat * 3)).block, (ad196.add ((x5_1).toNat * 3)).off + 1, none⟩ = some (.slice A196_1 ((rd_T53 l1 x5_1).f1).length c196_1) ∧ w24.cell? ⟨(ad196.add ((x5_1).toNat * 3)).block, (ad196.add ((x5_1).toNat * 3)).off + 2, none⟩ = some (.slice A196_2 ((rd_T53 l1 x5_1).f2).length c196_2) := hS_
         refine norm_ (a' := ?_) ?_ ?_
         rotate_left
         ·simp only [putAll, Act.put, List.setIfInBounds_toArray, List.set_cons_zero, List.set_cons_succ]
          rfl
         refine pure_ (i := 24) (N := some 41) (v := ?_) (a' := ?_) #[true, true, true, true, true, true, true, true, true, true, true, true, true, true, true, true, true, true, true, true, true, true, true, true, true, false, false, false, false, false, false, false, false, false, false, false, false, false, false, false] rfl rfl (any_of HT_.out (by kernel_rfl)) (fun _ _ _ h => h) (Or.inl ⟨by rfl, ?_⟩) ?_ ?_
         rotate_left
         ·intro w'
          go_simp
          with_reducible rfl
         rotate_left
         ·simp only [Act.put, List.setIfInBounds_toArray, List.set_cons_zero, List.set_cons_succ, i64_w, i32_w]
          rfl
         refine pure_ (i := 25) (N := some 42) (v := ?_) (a' := ?_) #[true, true, true, true, true, true, true, true, true, true, true, true, true, true, true, true, true, true, true, true, true, true, true, true, true, true, false, false, false, false, false, false, false, false, false, false, false, false, false, false] rfl rfl (any_of HT_.out (by kernel_rfl)) (fun _ _ _ h => h) (Or.inl ⟨by rfl, ?_⟩) ?_ ?_
         rotate_left
         ·intro w'
          go_simp
          with_reducible rfl
         rotate_left
         ·simp only [Act.put, List.setIfInBounds_toArray, List.set_cons_zero, List.set_cons_succ, i64_w, i32_w]
          rfl
         refine pure_ (i := 26) (N := some 43) (v := ?_) (a' := ?_) #[true, true, true, true, true, true, true, true, true, true, true, true, true, true, true, true, true, true, true, true, true, true, true, true, true, true, true, false, false, false, false, false, false, false, false, false, false, false, false, false] rfl rfl (any_of HT_.out (by kernel_rfl)) (fun _ _ _ h => h) (Or.inl ⟨by rfl, ?_⟩) ?_ ?_
         rotate_left
         ·intro w'
          go_simp
          with_reducible rfl
         rotate_left
         ·simp only [Act.put, List.setIfInBounds_toArray, List.set_cons_zero, List.set_cons_succ, i64_w, i32_w]
          rfl
         refine pure_ (i := 27) (N := some 44) (v := undef) (a' := ?_) #[true, true, true, true, true, true, true, true, true, true, true, true, true, true, true, true, true, true, true, true, true, true, true, true, true, true, true, true, false, false, false, false, false, false, false, false, false, false, false, false] rfl rfl (any_of HT_.out (by kernel_rfl)) (fun _ _ _ h => h) (Or.inr ⟨by rfl, rfl⟩) ?_ ?_
         rotate_left
         ·simp only [Act.put, List.setIfInBounds_toArray, List.set_cons_zero, List.set_cons_succ, i64_w, i32_w]
          rfl
         refine pure_ (i := 28) (N := some 45) (v := undef) (a' := ?_) #[true, true, true, true, true, true, true, true, true, true, true, true, true, true, true, true, true, true, true, true, true, true, true, true, true, true, true, true, true, false, false, false, false, false, false, false, false, false, false, false] rfl rfl (any_of HT_.out (by kernel_rfl)) (fun _ _ _ h => h) (Or.inr ⟨by rfl, rfl⟩) ?_ ?_
         rotate_left
         ·simp only [Act.put, List.setIfInBounds_toArray, List.set_cons_zero, List.set_cons_succ, i64_w, i32_w]
          rfl
         refine pure_ (i := 29) (N := some 46) (v := undef) (a' := ?_) #[true, true, true, true, true, true, true, true, true, true, true, true, true, true, true, true, true, true, true, true, true, true, true, true, true, true, true, true, true, true, false, false, false, false, false, false, false, false, false, false] rfl rfl (any_of HT_.out (by kernel_rfl)) (fun _ _ _ h => h) (Or.inr ⟨by rfl, rfl⟩) ?_ ?_
         rotate_left
         ·simp only [Act.put, List.setIfInBounds_toArray, List.set_cons_zero, List.set_cons_succ, i64_w, i32_w]
          rfl
         refine pure_ (i := 30) (N := some 47) (v := undef) (a' := ?_) #[true, true, true, true, true, true, true, true, true, true, true, true, true, true, true, true, true, true, true, true, true, true, true, true, true, true, true, true, true, true, true, false, false, false, false, false, false, false, false, false] rfl rfl (any_of HT_.out (by kernel_rfl)) (fun _ _ _ h => h) (Or.inr ⟨by rfl, rfl⟩) ?_ ?_
         rotate_left
         ·simp only [Act.put, List.setIfInBounds_toArray, List.set_cons_zero, List.set_cons_succ, i64_w, i32_w]
          rfl
         refine pure_ (i := 31) (N := some 48) (v := undef) (a' := ?_) #[true, true, true, true, true, true, true, true, true, true, true, true, true, true, true, true, true, true, true, true, true, true, true, true, true, true, true, true, true, true, true, true, false, false, false, false, false, false, false, false] rfl rfl (any_of HT_.out (by kernel_rfl)) (fun _ _ _ h => h) (Or.inr ⟨by rfl, rfl⟩) ?_ ?_
         rotate_left
         ·simp only [Act.put, List.setIfInBounds_toArray, List.set_cons_zero, List.set_cons_succ, i64_w, i32_w]
          rfl
         refine pure_ (i := 32) (N := some 49) (v := undef) (a' := ?_) #[true, true, true, true, true, true, true, true, true, true, true, true, true, true, true, true, true, true, true, true, true, true, true, true, true, true, true, true, true, true, true, true, true, false, false, false, false, false, false, false] rfl rfl (any_of HT_.out (by kernel_rfl)) (fun _ _ _ h => h) (Or.inr ⟨by rfl, rfl⟩) ?_ ?_
         rotate_left
         ·simp only [Act.put, List.setIfInBounds_toArray, List.set_cons_zero, List.set_cons_succ, i64_w, i32_w]
          rfl
         refine pure_ (i := 33) (N := some 50) (v := undef) (a' := ?_) #[true, true, true, true, true, true, true, true, true, true, true, true, true, true, true, true, true, true, true, true, true, true, true, true, true, true, true, true, true, true, true, true, true, true, false, false, false, false, false, false] rfl rfl (any_of HT_.out (by kernel_rfl)) (fun _ _ _ h => h) (Or.inr ⟨by rfl, rfl⟩) ?_ ?_
         rotate_left
         ·simp only [Act.put, List.setIfInBounds_toArray, List.set_cons_zero, List.set_cons_succ, i64_w, i32_w]
          rfl
         refine pure_ (i := 34) (N := some 51) (v := undef) (a' := ?_) #[true, true, true, true, true, true, true, true, true, true, true, true, true, true, true, true, true, true, true, true, true, true, true, true, true, true, true, true, true, true, true, true, true, true, true, false, false, false, false, false] rfl rfl (any_of HT_.out (by kernel_rfl)) (fun _ _ _ h => h) (Or.inr ⟨by rfl, rfl⟩) ?_ ?_
         rotate_left
         ·simp only [Act.put, List.setIfInBounds_toArray, List.set_cons_zero, List.set_cons_succ, i64_w, i32_w]
          rfl
         refine pure_ (i := 35) (N := some 52) (v := undef) (a' := ?_) #[true, true, true, true, true, true, true, true, true, true, true, true, true, true, true, true, true, true, true, true, true, true, true, true, true, true, true, true, true, true, true, true, true, true, true, true, false, false, false, false] rfl rfl (any_of HT_.out (by kernel_rfl)) (fun _ _ _ h => h) (Or.inr ⟨by rfl, rfl⟩) ?_ ?_
         rotate_left
         ·simp only [Act.put, List.setIfInBounds_toArray, List.set_cons_zero, List.set_cons_succ, i64_w, i32_w]
          rfl
         refine pure_ (i := 36) (N := some 53) (v := undef) (a' := ?_) #[true, true, true, true, true, true, true, true, true, true, true, true, true, true, true, true, true, true, true, true, true, true, true, true, true, true, true, true, true, true, true, true, true, true, true, true, true, false, false, false] rfl rfl (any_of HT_.out (by kernel_rfl)) (fun _ _ _ h => h) (Or.inr ⟨by rfl, rfl⟩) ?_ ?_
         rotate_left
         ·simp only [Act.put, List.setIfInBounds_toArray, List.set_cons_zero, List.set_cons_succ, i64_w, i32_w]
          rfl
         refine pure_ (i := 37) (N := some 54) (v := undef) (a' := ?_) #[true, true, true, true, true, true, true, true, true, true, true, true, true, true, true, true, true, true, true, true, true, true, true, true, true, true, true, true, true, true, true, true, true, true, true, true, true, true, false, false] rfl rfl (any_of HT_.out (by kernel_rfl)) (fun _ _ _ h => h) (Or.inr ⟨by rfl, rfl⟩) ?_ ?_
         rotate_left
         ·simp only [Act.put, List.setIfInBounds_toArray, List.set_cons_zero, List.set_cons_succ, i64_w, i32_w]
          rfl
         refine pure_ (i := 38) (N := some 55) (v := undef) (a' := ?_) #[true, true, true, true, true, true, true, true, true, true, true, true, true, true, true, true, true, true, true, true, true, true, true, true, true, true, true, true, true, true, true, true, true, true, true, true, true, true, true, false] rfl rfl (any_of HT_.out (by kernel_rfl)) (fun _ _ _ h => h) (Or.inr ⟨by rfl, rfl⟩) ?_ ?_
         rotate_left
         ·simp only [Act.put, List.setIfInBounds_toArray, List.set_cons_zero, List.set_cons_succ, i64_w, i32_w]
          rfl
         refine pure_ (i := 39) (N := some 56) (v := ?_) (a' := ?_) #[true, true, true, true, true, true, true, true, true, true, true, true, true, true, true, true, true, true, true, true, true, true, true, true, true, true, true, true, true, true, true, true, true, true, true, true, true, true, true, true] rfl rfl (any_of HT_.out (by kernel_rfl)) (fun _ _ _ h => h) (Or.inl ⟨by rfl, ?_⟩) ?_ ?_
         rotate_left
         ·intro w'
          go_simp
          with_reducible rfl
         rotate_left
         ·simp only [Act.put, List.setIfInBounds_toArray, List.set_cons_zero, List.set_cons_succ, i64_w, i32_w]
          rfl
         refine done_ (done_of HT_.out (by kernel_rfl)) ?_
         try go_wp2
         go_ret
         exact ⟨by first | rfl | (simp [errW_none, errW_some] <;> rfl) | (simp [*, errW_none, errW_some] <;> rfl), by repeat (first | (with_reducible first | exact HB.out | apply below_alloc | apply pw_below_drewN | apply below_drew1) | exact HB.out)⟩
       ·rw [if_neg c7] at H
        have c7b0 : (((rd_T53 l0 x5_1).f0) == ((rd_T53 l1 x5_1).f0)) = false := beq_eq_false_iff_ne.mpr c7
        have c7b1 : (((rd_T53 l0 x5_1).f0) != ((rd_T53 l1 x5_1).f0)) = true := bne_iff_ne.mpr c7
        obtain rfl := Option.some.inj H
        try go_wp2
        have n0_ := Aside0.mk (below_drew1 HB.out)
        clear HB
        have HB := n0_
        clear n0_
        have p195 : 0 ≤ (x5_1 : Int) := of_decide_eq_true (by first | (with_reducible assumption) | assumption)
        have q195 : x5_1 < (l0.length : Int) := of_decide_eq_true (by first | (with_reducible assumption) | assumption)
        obtain ⟨ad195, A195_1, c195_1, A195_2, c195_2, e195, hx195_0, hx195_1, hx195_2, hl195_1, hi195_1, hl195_2, hi195_2⟩ := at_T53 HR0.out x5_1 p195 q195
        have hw195_2 := hx195_2
        have hw195_1 := hx195_1
        have hw195_0 := hx195_0
        cases e195
        replace hx195_0 := (HB.out.cell (World.block_lt_of_cell? w _ hx195_0)).trans hx195_0
        replace hx195_1 := (HB.out.cell (World.block_lt_of_cell? w _ hx195_1)).trans hx195_1
        replace hx195_2 := (HB.out.cell (World.block_lt_of_cell? w _ hx195_2)).trans hx195_2
        have HR195_1 := Aside0.mk hi195_1
        have HC195_1 := Aside0.mk hl195_1
        clear hi195_1 hl195_1
        have HR195_2 := Aside0.mk hi195_2
        have HC195_2 := Aside0.mk hl195_2
        clear hi195_2 hl195_2
        replace p195 := eq_true p195
        replace q195 := eq_true q195
        have p196 : 0 ≤ (x5_1 : Int) := of_decide_eq_true (by first | (with_reducible assumption) | assumption)
        have q196 : x5_1 < (l1.length : Int) := of_decide_eq_true (by first | (with_reducible assumption) | assumption)
        obtain ⟨ad196, A196_1, c196_1, A196_2, c196_2, e196, hx196_0, hx196_1, hx196_2, hl196_1, hi196_1, hl196_2, hi196_2⟩ := at_T53 HR1.out x5_1 p196 q196
        have hw196_2 := hx196_2
        have hw196_1 := hx196_1
        have hw196_0 := hx196_0
        cases e196
        replace hx196_0 := (HB.out.cell (World.block_lt_of_cell? w _ hx196_0)).trans hx196_0
        replace hx196_1 := (HB.out.cell (World.block_lt_of_cell? w _ hx196_1)).trans hx196_1
        replace hx196_2 := (HB.out.cell (World.block_lt_of_cell? w _ hx196_2)).trans hx196_2
        have HR196_1 := Aside0.mk hi196_1
        have HC196_1 := Aside0.mk hl196_1
        clear hi196_1 hl196_1
        have HR196_2 := Aside0.mk hi196_2
        have HC196_2 := Aside0.mk hl196_2
        clear hi196_2 hl196_2
        replace p196 := eq_true p196
        replace q196 := eq_true q196
        refine start_ (n := 40) (S := fun w' => w'.cell? (ad195.add ((x5_1).toNat * 3)) = some (.int .i64 ((rd_T53 l0 x5_1).f0)) ∧ w'.cell? ⟨(ad195.add ((x5_1).toNat * 3)).block, (ad195.add ((x5_1).toNat * 3)).off + 1, none⟩ = some (.slice A195_1 ((rd_T53 l0 x5_1).f1).length c195_1) ∧ w'.cell? ⟨(ad195.add ((x5_1).toNat * 3)).block, (ad195.add ((x5_1).toNat * 3)).off + 2, none⟩ = some (.slice A195_2 ((rd_T53 l0 x5_1).f2).length c195_2) ∧ w'.cell? (ad196.add ((x5_1).toNat * 3)) = some (.int .i64 ((rd_T53 l1 x5_1).f0)) ∧ w'.cell? ⟨(ad196.add ((x5_1).toNat * 3)).block, (ad196.add ((x5_1).toNat * 3)).off + 1, none⟩ = some (.slice A196_1 ((rd_T53 l1 x5_1).f1).length c196_1) ∧ w'.cell? ⟨(ad196.add ((x5_1).toNat * 3)).block, (ad196.add ((x5_1).toNat * 3)).off + 2, none⟩ = some (.slice A196_2 ((rd_T53 l1 x5_1).f2).length c196_2)) (ds := []) #[false, false, false, false, false, false, false, false, false, false, false, false, false, false, false, false, false, false, false, false, false, false, false, false, false, false, false, false, false, false, false, false, false, false, false, false, false, false, false, false] (by kernel_rfl) rfl rfl ⟨((HB.out.cell (World.block_lt_of_cell? w _ hw195_0)).trans hw195_0), ((HB.out.cell (World.block_lt_of_cell? w _ hw195_1)).trans hw195_1), ((HB.out.cell (World.block_lt_of_cell? w _ hw195_2)).trans hw195_2), ((HB.out.cell (World.block_lt_of_cell? w _ hw196_0)).trans hw196_0), ((HB.out.cell (World.block_lt_of_cell? w _ hw196_1)).trans hw196_1), ((HB.out.cell (World.block_lt_of_cell? w _ hw196_2)).trans hw196_2)⟩ (fun hHeld => ?_); refine with_tabW substationref10_Same.tab6 substationref10_Same.bits6 (fun HT_ HW_ => ?_)
        generalize wr.drew = w25 at HB HR195_1 HR195_2 HR196_1 HR196_2 hx195_0 hx195_1 hx195_2 hx196_0 hx196_1 hx196_2 hHeld ⊢
        refine pure_ (i := 0) (N := some 17) (v := ?_) (a' := ?_) #[true, false, false, false, false, false, false, false, false, false, false, false, false, false, false, false, false, false, false, false, false, false, false, false, false, false, false, false, false, false, false, false, false, false, false, false, false, false, false, false] rfl rfl (any_of HT_.out (by kernel_rfl)) (fun _ _ _ h => h) (Or.inl ⟨by rfl, ?_⟩) ?_ ?_
        rotate_left
        ·intro w'
         go_simp
         with_reducible rfl
        rotate_left
        ·simp only [Act.put, List.setIfInBounds_toArray, List.set_cons_zero, List.set_cons_succ, i64_w, i32_w]
         rfl
        refine pure_ (i := 1) (N := some 18) (v := ?_) (a' := ?_) #[true, true, false, false, false, false, false, false, false, false, false, false, false, false, false, false, false, false, false, false, false, false, false, false, false, false, false, false, false, false, false, false, false, false, false, false, false, false, false, false] rfl rfl (any_of HT_.out (by kernel_rfl)) (fun _ _ _ h => h) (Or.inl ⟨by rfl, ?_⟩) ?_ ?_
        rotate_left
        ·intro w'
         go_simp
         with_reducible rfl
        rotate_left
        ·simp only [Act.put, List.setIfInBounds_toArray, List.set_cons_zero, List.set_cons_succ, i64_w, i32_w]
         rfl
        refine pure_ (i := 2) (N := some 19) (v := ?_) (a' := ?_) #[true, true, true, false, false, false, false, false, false, false, false, false, false, false, false, false, false, false, false, false, false, false, false, false, false, false, false, false, false, false, false, false, false, false, false, false, false, false, false, false] rfl rfl (any_of HT_.out (by kernel_rfl)) (fun _ _ _ h => h) (Or.inl ⟨by rfl, ?_⟩) ?_ ?_
        rotate_left
        ·intro w'
         go_simp
         with_reducible rfl
        rotate_left
        ·simp only [Act.put, List.setIfInBounds_toArray, List.set_cons_zero, List.set_cons_succ, i64_w, i32_w]
         rfl
        refine pure_ (i := 3) (N := some 20) (v := ?_) (a' := ?_) #[true, true, true, true, false, false, false, false, false, false, false, false, false, false, false, false, false, false, false, false, false, false, false, false, false, false, false, false, false, false, false, false, false, false, false, false, false, false, false, false] rfl rfl (any_of HT_.out (by kernel_rfl)) (fun _ _ _ h => h) (Or.inl ⟨by rfl, ?_⟩) ?_ ?_
        rotate_left
        ·intro w'
         go_simp
         with_reducible rfl
        rotate_left
        ·simp only [Act.put, List.setIfInBounds_toArray, List.set_cons_zero, List.set_cons_succ, i64_w, i32_w]
         rfl
        refine pure_ (i := 5) (N := some 22) (v := ?_) (a' := ?_) #[true, true, true, true, false, true, false, false, false, false, false, false, false, false, false, false, false, false, false, false, false, false, false, false, false, false, false, false, false, false, false, false, false, false, false, false, false, false, false, false] rfl rfl (any_of HT_.out (by kernel_rfl)) (fun _ _ _ h => h) (Or.inl ⟨by rfl, ?_⟩) ?_ ?_
        rotate_left
        ·intro w'
         go_simp
         with_reducible rfl
        rotate_left
        ·simp only [Act.put, List.setIfInBounds_toArray, List.set_cons_zero, List.set_cons_succ, i64_w, i32_w]
         rfl
        refine pure_ (i := 6) (N := some 23) (v := ?_) (a' := ?_) #[true, true, true, true, false, true, true, false, false, false, false, false, false, false, false, false, false, false, false, false, false, false, false, false, false, false, false, false, false, false, false, false, false, false, false, false, false, false, false, false] rfl rfl (any_of HT_.out (by kernel_rfl)) (fun _ _ _ h => h) (Or.inl ⟨by rfl, ?_⟩) ?_ ?_
        rotate_left
        ·intro w'
         go_simp
         with_reducible rfl
        rotate_left
        ·simp only [Act.put, List.setIfInBounds_toArray, List.set_cons_zero, List.set_cons_succ, i64_w, i32_w]
         rfl
        refine pure_ (i := 7) (N := some 24) (v := ?_) (a' := ?_) #[true, true, true, true, false, true, true, true, false, false, false, false, false, false, false, false, false, false, false, false, false, false, false, false, false, false, false, false, false, false, false, false, false, false, false, false, false, false, false, false] rfl rfl (any_of HT_.out (by kernel_rfl)) (fun _ _ _ h => h) (Or.inl ⟨by rfl, ?_⟩) ?_ ?_
        rotate_left
        ·intro w'
         go_simp
         with_reducible rfl
        rotate_left
        ·simp only [Act.put, List.setIfInBounds_toArray, List.set_cons_zero, List.set_cons_succ, i64_w, i32_w]
         rfl
        refine pure_ (i := 8) (N := some 25) (v := ?_) (a' := ?_) #[true, true, true, true, false, true, true, true, true, false, false, false, false, false, false, false, false, false, false, false, false, false, false, false, false, false, false, false, false, false, false, false, false, false, false, false, false, false, false, false] rfl rfl (any_of HT_.out (by kernel_rfl)) (fun _ _ _ h => h) (Or.inl ⟨by rfl, ?_⟩) ?_ ?_
        rotate_left
        ·intro w'
         go_simp
         with_reducible rfl
        rotate_left
        ·simp only [Act.put, List.setIfInBounds_toArray, List.set_cons_zero, List.set_cons_succ, i64_w, i32_w]
         rfl
        refine take_ (i := 4) (N := some 21) (v := ?_) (a' := ?_) #[true, true, true, true, true, true, true, true, true, false, false, false, false, false, false, false, false, false, false, false, false, false, false, false, false, false, false, false, false, false, false, false, false, false, false, false, false, false, false, false] rfl rfl (take_ofW HT_.out HW_.out (by kernel_rfl)) (fun _ _ _ h => h) (Or.inl ⟨by rfl, ?_⟩) hHeld ?_ ?_
        rotate_left
        ·rintro w' ⟨s0, s1, s2, s3, s4, s5⟩
         go_simp
         with_reducible rfl
        rotate_left
        ·simp only [Act.put, List.setIfInBounds_toArray, List.set_cons_zero, List.set_cons_succ, i64_w, i32_w]
         rfl
        refine take_ (i := 9) (N := some 26) (v := ?_) (a' := ?_) #[true, true, true, true, true, true, true, true, true, true, false, false, false, false, false, false, false, false, false, false, false, false, false, false, false, false, false, false, false, false, false, false, false, false, false, false, false, false, false, false] rfl rfl (take_ofW HT_.out HW_.out (by kernel_rfl)) (fun _ _ _ h => h) (Or.inl ⟨by rfl, ?_⟩) hHeld ?_ ?_
        rotate_left
        ·rintro w' ⟨s0, s1, s2, s3, s4, s5⟩
         go_simp
         with_reducible rfl
        rotate_left
        ·simp only [Act.put, List.setIfInBounds_toArray, List.set_cons_zero, List.set_cons_succ, i64_w, i32_w]
         rfl
        refine pure_ (i := 10) (N := some 27) (v := ?_) (a' := ?_) #[true, true, true, true, true, true, true, true, true, true, true, false, false, false, false, false, false, false, false, false, false, false, false, false, false, false, false, false, false, false, false, false, false, false, false, false, false, false, false, false] rfl rfl (any_of HT_.out (by kernel_rfl)) (fun _ _ _ h => h) (Or.inl ⟨by rfl, ?_⟩) ?_ ?_
        rotate_left
        ·intro w'
         go_simp
         with_reducible rfl
        rotate_left
        ·simp only [Act.put, List.setIfInBounds_toArray, List.set_cons_zero, List.set_cons_succ, i64_w, i32_w]
         rfl
        refine pure_ (i := 11) (N := some 28) (v := ?_) (a' := ?_) #[true, true, true, true, true, true, true, true, true, true, true, true, false, false, false, false, false, false, false, false, false, false, false, false, false, false, false, false, false, false, false, false, false, false, false, false, false, false, false, false] rfl rfl (any_of HT_.out (by kernel_rfl)) (fun _ _ _ h => h) (Or.inl ⟨by rfl, ?_⟩) ?_ ?_
        rotate_left
        ·intro w'
         go_simp
         with_reducible rfl
        rotate_left
        ·simp only [Act.put, List.setIfInBounds_toArray, List.set_cons_zero, List.set_cons_succ, i64_w, i32_w]
         rfl
        refine pure_ (i := 12) (N := some 29) (v := undef) (a' := ?_) #[true, true, true, true, true, true, true, true, true, true, true, true, true, false, false, false, false, false, false, false, false, false, false, false, false, false, false, false, false, false, false, false, false, false, false, false, false, false, false, false] rfl rfl (any_of HT_.out (by kernel_rfl)) (fun _ _ _ h => h) (Or.inr ⟨by rfl, rfl⟩) ?_ ?_
        rotate_left
        ·simp only [Act.put, List.setIfInBounds_toArray, List.set_cons_zero, List.set_cons_succ, i64_w, i32_w]
         rfl
        refine pure_ (i := 13) (N := some 30) (v := undef) (a' := ?_) #[true, true, true, true, true, true, true, true, true, true, true, true, true, true, false, false, false, false, false, false, false, false, false, false, false, false, false, false, false, false, false, false, false, false, false, false, false, false, false, false] rfl rfl (any_of HT_.out (by kernel_rfl)) (fun _ _ _ h => h) (Or.inr ⟨by rfl, rfl⟩) ?_ ?_
        rotate_left
        ·simp only [Act.put, List.setIfInBounds_toArray, List.set_cons_zero, List.set_cons_succ, i64_w, i32_w]
         rfl
        refine pure_ (i := 14) (N := some 31) (v := undef) (a' := ?_) #[true, true, true, true, true, true, true, true, true, true, true, true, true, true, true, false, false, false, false, false, false, false, false, false, false, false, false, false, false, false, false, false, false, false, false, false, false, false, false, false] rfl rfl (any_of HT_.out (by kernel_rfl)) (fun _ _ _ h => h) (Or.inr ⟨by rfl, rfl⟩) ?_ ?_
        rotate_left
        ·simp only [Act.put, List.setIfInBounds_toArray, List.set_cons_zero, List.set_cons_succ, i64_w, i32_w]
         rfl
        refine pure_ (i := 15) (N := some 32) (v := undef) (a' := ?_) #[true, true, true, true, true, true, true, true, true, true, true, true, true, true, true, true, false, false, false, false, false, false, false, false, false, false, false, false, false, false, false, false, false, false, false, false, false, false, false, false] rfl rfl (any_of HT_.out (by kernel_rfl)) (fun _ _ _ h => h) (Or.inr ⟨by rfl, rfl⟩) ?_ ?_
        rotate_left
        ·simp only [Act.put, List.setIfInBounds_toArray, List.set_cons_zero, List.set_cons_succ, i64_w, i32_w]
         rfl
        refine pure_ (i := 16) (N := some 33) (v := undef) (a' := ?_) #[true, true, true, true, true, true, true, true, true, true, true, true, true, true, true, true, true, false, false, false, false, false, false, false, false, false, false, false, false, false, false, false, false, false, false, false, false, false, false, false] rfl rfl (any_of HT_.out (by kernel_rfl)) (fun _ _ _ h => h) (Or.inr ⟨by rfl, rfl⟩) ?_ ?_
        rotate_left
        ·simp only [Act.put, List.setIfInBounds_toArray, List.set_cons_zero, List.set_cons_succ, i64_w, i32_w]
         rfl
        refine pure_ (i := 17) (N := some 34) (v := undef) (a' := ?_) #[true, true, true, true, true, true, true, true, true, true, true, true, true, true, true, true, true, true, false, false, false, false, false, false, false, false, false, false, false, false, false, false, false, false, false, false, false, false, false, false] rfl rfl (any_of HT_.out (by kernel_rfl)) (fun _ _ _ h => h) (Or.inr ⟨by rfl, rfl⟩) ?_ ?_
        rotate_left
        ·simp only [Act.put, List.setIfInBounds_toArray, List.set_cons_zero, List.set_cons_succ, i64_w, i32_w]
         rfl
        refine pure_ (i := 18) (N := some 35) (v := undef) (a' := ?_) #[true, true, true, true, true, true, true, true, true, true, true, true, true, true, true, true, true, true, true, false, false, false, false, false, false, false, false, false, false, false, false, false, false, false, false, false, false, false, false, false] rfl rfl (any_of HT_.out (by kernel_rfl)) (fun _ _ _ h => h) (Or.inr ⟨by rfl, rfl⟩) ?_ ?_
        rotate_left
        ·simp only [Act.put, List.setIfInBounds_toArray, List.set_cons_zero, List.set_cons_succ, i64_w, i32_w]
         rfl
        refine pure_ (i := 19) (N := some 36) (v := undef) (a' := ?_) #[true, true, true, true, true, true, true, true, true, true, true, true, true, true, true, true, true, true, true, true, false, false, false, false, false, false, false, false, false, false, false, false, false, false, false, false, false, false, false, false] rfl rfl (any_of HT_.out (by kernel_rfl)) (fun _ _ _ h => h) (Or.inr ⟨by rfl, rfl⟩) ?_ ?_
        rotate_left
        ·simp only [Act.put, List.setIfInBounds_toArray, List.set_cons_zero, List.set_cons_succ, i64_w, i32_w]
         rfl
        refine pure_ (i := 20) (N := some 37) (v := undef) (a' := ?_) #[true, true, true, true, true, true, true, true, true, true, true, true, true, true, true, true, true, true, true, true, true, false, false, false, false, false, false, false, false, false, false, false, false, false, false, false, false, false, false, false] rfl rfl (any_of HT_.out (by kernel_rfl)) (fun _ _ _ h => h) (Or.inr ⟨by rfl, rfl⟩) ?_ ?_
        rotate_left
        ·simp only [Act.put, List.setIfInBounds_toArray, List.set_cons_zero, List.set_cons_succ, i64_w, i32_w]
         rfl
        refine pure_ (i := 21) (N := some 38) (v := undef) (a' := ?_) #[true, true, true, true, true, true, true, true, true, true, true, true, true, true, true, true, true, true, true, true, true, true, false, false, false, false, false, false, false, false, false, false, false, false, false, false, false, false, false, false] rfl rfl (any_of HT_.out (by kernel_rfl)) (fun _ _ _ h => h) (Or.inr ⟨by rfl, rfl⟩) ?_ ?_
        rotate_left
        ·simp only [Act.put, List.setIfInBounds_toArray, List.set_cons_zero, List.set_cons_succ, i64_w, i32_w]
         rfl
        refine pure_ (i := 22) (N := some 39) (v := undef) (a' := ?_) #[true, true, true, true, true, true, true, true, true, true, true, true, true, true, true, true, true, true, true, true, true, true, true, false, false, false, false, false, false, false, false, false, false, false, false, false, false, false, false, false] rfl rfl (any_of HT_.out (by kernel_rfl)) (fun _ _ _ h => h) (Or.inr ⟨by rfl, rfl⟩) ?_ ?_
        rotate_left
        ·simp only [Act.put, List.setIfInBounds_toArray, List.set_cons_zero, List.set_cons_succ, i64_w, i32_w]
         rfl
        refine pure_ (i := 23) (N := some 40) (v := undef) (a' := ?_) #[true, true, true, true, true, true, true, true, true, true, true, true, true, true, true, true, true, true, true, true, true, true, true, true, false, false, false, false, false, false, false, false, false, false, false, false, false, false, false, false] rfl rfl (any_of HT_.out (by kernel_rfl)) (fun _ _ _ h => h) (Or.inr ⟨by rfl, rfl⟩) ?_ ?_
        rotate_left
        ·simp only [Act.put, List.setIfInBounds_toArray, List.set_cons_zero, List.set_cons_succ, i64_w, i32_w]
         rfl
        refine pure_ (i := 24) (N := some 41) (v := undef) (a' := ?_) #[true, true, true, true, true, true, true, true, true, true, true, true, true, true, true, true, true, true, true, true, true, true, true, true, true, false, false, false, false, false, false, false, false, false, false, false, false, false, false, false] rfl rfl (any_of HT_.out (by kernel_rfl)) (fun _ _ _ h => h) (Or.inr ⟨by rfl, rfl⟩) ?_ ?_
        rotate_left
        ·simp only [Act.put, List.setIfInBounds_toArray, List.set_cons_zero, List.set_cons_succ, i64_w, i32_w]
         rfl
        refine pure_ (i := 25) (N := some 42) (v := ?_) (a' := ?_) #[true, true, true, true, true, true, true, true, true, true, true, true, true, true, true, true, true, true, true, true, true, true, true, true, true, true, false, false, false, false, false, false, false, false, false, false, false, false, false, false] rfl rfl (any_of HT_.out (by kernel_rfl)) (fun _ _ _ h => h) (Or.inl ⟨by rfl, ?_⟩) ?_ ?_
        rotate_left
        ·intro w'
         go_simp
         with_reducible rfl
        rotate_left
        ·simp only [Act.put, List.setIfInBounds_toArray, List.set_cons_zero, List.set_cons_succ, i64_w, i32_w]
         rfl
        refine pure_ (i := 26) (N := some 43) (v := ?_) (a' := ?_) #[true, true, true, true, true, true, true, true, true, true, true, true, true, true, true, true, true, true, true, true, true, true, true, true, true, true, true, false, false, false, false, false, false, false, false, false, false, false, false, false] rfl rfl (any_of HT_.out (by kernel_rfl)) (fun _ _ _ h => h) (Or.inl ⟨by rfl, ?_⟩) ?_ ?_
        rotate_left
        ·intro w'
         go_simp
         with_reducible rfl
        rotate_left
        ·simp only [Act.put, List.setIfInBounds_toArray, List.set_cons_zero, List.set_cons_succ, i64_w, i32_w]
         rfl
        refine pure_ (i := 27) (N := some 44) (v := undef) (a' := ?_) #[true, true, true, true, true, true, true, true, true, true, true, true, true, true, true, true, true, true, true, true, true, true, true, true, true, true, true, true, false, false, false, false, false, false, false, false, false, false, false, false] rfl rfl (any_of HT_.out (by kernel_rfl)) (fun _ _ _ h => h) (Or.inr ⟨by rfl, rfl⟩) ?_ ?_
        rotate_left
        ·simp only [Act.put, List.setIfInBounds_toArray, List.set_cons_zero, List.set_cons_succ, i64_w, i32_w]
         rfl
        refine pure_ (i := 28) (N := some 45) (v := undef) (a' := ?_) #[true, true, true, true, true, true, true, true, true, true, true, true, true, true, true, true, true, true, true, true, true, true, true, true, true, true, true, true, true, false, false, false, false, false, false, false, false, false, false, false] rfl rfl (any_of HT_.out (by kernel_rfl)) (fun _ _ _ h => h) (Or.inr ⟨by rfl, rfl⟩) ?_ ?_
        rotate_left
        ·simp only [Act.put, List.setIfInBounds_toArray, List.set_cons_zero, List.set_cons_succ, i64_w, i32_w]
         rfl
        refine pure_ (i := 29) (N := some 46) (v := undef) (a' := ?_) #[true, true, true, true, true, true, true, true, true, true, true, true, true, true, true, true, true, true, true, true, true, true, true, true, true, true, true, true, true, true, false, false, false, false, false, false, false, false, false, false] rfl rfl (any_of HT_.out (by kernel_rfl)) (fun _ _ _ h => h) (Or.inr ⟨by rfl, rfl⟩) ?_ ?_
        rotate_left
        ·simp only [Act.put, List.setIfInBounds_toArray, List.set_cons_zero, List.set_cons_succ, i64_w, i32_w]
         rfl
        refine pure_ (i := 30) (N := some 47) (v := undef) (a' := ?_) #[true, true, true, true, true, true, true, true, true, true, true, true, true, true, true, true, true, true, true, true, true, true, true, true, true, true, true, true, true, true, true, false, false, false, false, false, false, false, false, false] rfl rfl (any_of HT_.out (by kernel_rfl)) (fun _ _ _ h => h) (Or.inr ⟨by rfl, rfl⟩) ?_ ?_
        rotate_left
        ·simp only [Act.put, List.setIfInBounds_toArray, List.set_cons_zero, List.set_cons_succ, i64_w, i32_w]
         rfl
        refine pure_ (i := 31) (N := some 48) (v := undef) (a' := ?_) #[true, true, true, true, true, true, true, true, true, true, true, true, true, true, true, true, true, true, true, true, true, true, true, true, true, true, true, true, true, true, true, true, false, false, false, false, false, false, false, false] rfl rfl (any_of HT_.out (by kernel_rfl)) (fun _ _ _ h => h) (Or.inr ⟨by rfl, rfl⟩) ?_ ?_
        rotate_left
        ·simp only [Act.put, List.setIfInBounds_toArray, List.set_cons_zero, List.set_cons_succ, i64_w, i32_w]
         rfl
        refine pure_ (i := 32) (N := some 49) (v := undef) (a' := ?_) #[true, true, true, true, true, true, true, true, true, true, true, true, true, true, true, true, true, true, true, true, true, true, true, true, true, true, true, true, true, true, true, true, true, false, false, false, false, false, false, false] rfl rfl (any_of HT_.out (by kernel_rfl)) (fun _ _ _ h => h) (Or.inr ⟨by rfl, rfl⟩) ?_ ?_
        rotate_left
        ·simp only [Act.put, List.setIfInBounds_toArray, List.set_cons_zero, List.set_cons_succ, i64_w, i32_w]
         rfl
        refine pure_ (i := 33) (N := some 50) (v := undef) (a' := ?_) #[true, true, true, true, true, true, true, true, true, true, true, true, true, true, true, true, true, true, true, true, true, true, true, true, true, true, true, true, true, true, true, true, true, true, false, false, false, false, false, false] rfl rfl (any_of HT_.out (by kernel_rfl)) (fun _ _ _ h => h) (Or.inr ⟨by rfl, rfl⟩) ?_ ?_
        rotate_left
        ·simp only [Act.put, List.setIfInBounds_toArray, List.set_cons_zero, List.set_cons_succ, i64_w, i32_w]
         rfl
        refine pure_ (i := 34) (N := some 51) (v := undef) (a' := ?_) #[true, true, true, true, true, true, true, true, true, true, true, true, true, true, true, true, true, true, true, true, true, true, true, true, true, true, true, true, true, true, true, true, true, true, true, false, false, false, false, false] rfl rfl (any_of HT_.out (by kernel_rfl)) (fun _ _ _ h => h) (Or.inr ⟨by rfl, rfl⟩) ?_ ?_
        rotate_left
        ·simp only [Act.put, List.setIfInBounds_toArray, List.set_cons_zero, List.set_cons_succ, i64_w, i32_w]
         rfl
        refine pure_ (i := 35) (N := some 52) (v := undef) (a' := ?_) #[true, true, true, true, true, true, true, true, true, true, true, true, true, true, true, true, true, true, true, true, true, true, true, true, true, true, true, true, true, true, true, true, true, true, true, true, false, false, false, false] rfl rfl (any_of HT_.out (by kernel_rfl)) (fun _ _ _ h => h) (Or.inr ⟨by rfl, rfl⟩) ?_ ?_
        rotate_left
        ·simp only [Act.put, List.setIfInBounds_toArray, List.set_cons_zero, List.set_cons_succ, i64_w, i32_w]
         rfl
        refine pure_ (i := 36) (N := some 53) (v := undef) (a' := ?_) #[true, true, true, true, true, true, true, true, true, true, true, true, true, true, true, true, true, true, true, true, true, true, true, true, true, true, true, true, true, true, true, true, true, true, true, true, true, false, false, false] rfl rfl (any_of HT_.out (by kernel_rfl)) (fun _ _ _ h => h) (Or.inr ⟨by rfl, rfl⟩) ?_ ?_
        rotate_left
        ·simp only [Act.put, List.setIfInBounds_toArray, List.set_cons_zero, List.set_cons_succ, i64_w, i32_w]
         rfl
        refine pure_ (i := 37) (N := some 54) (v := undef) (a' := ?_) #[true, true, true, true, true, true, true, true, true, true, true, true, true, true, true, true, true, true, true, true, true, true, true, true, true, true, true, true, true, true, true, true, true, true, true, true, true, true, false, false] rfl rfl (any_of HT_.out (by kernel_rfl)) (fun _ _ _ h => h) (Or.inr ⟨by rfl, rfl⟩) ?_ ?_
        rotate_left
        ·simp only [Act.put, List.setIfInBounds_toArray, List.set_cons_zero, List.set_cons_succ, i64_w, i32_w]
         rfl
        refine pure_ (i := 38) (N := some 55) (v := undef) (a' := ?_) #[true, true, true, true, true, true, true, true, true, true, true, true, true, true, true, true, true, true, true, true, true, true, true, true, true, true, true, true, true, true, true, true, true, true, true, true, true, true, true, false] rfl rfl (any_of HT_.out (by kernel_rfl)) (fun _ _ _ h => h) (Or.inr ⟨by rfl, rfl⟩) ?_ ?_
        rotate_left
        ·simp only [Act.put, List.setIfInBounds_toArray, List.set_cons_zero, List.set_cons_succ, i64_w, i32_w]
         rfl
        refine pure_ (i := 39) (N := some 56) (v := ?_) (a' := ?_) #[true, true, true, true, true, true, true, true, true, true, true, true, true, true, true, true, true, true, true, true, true, true, true, true, true, true, true, true, true, true, true, true, true, true, true, true, true, true, true, true] rfl rfl (any_of HT_.out (by kernel_rfl)) (fun _ _ _ h => h) (Or.inl ⟨by rfl, ?_⟩) ?_ ?_
        rotate_left
        ·intro w'
         go_simp
         with_reducible rfl
        rotate_left
        ·simp only [Act.put, List.setIfInBounds_toArray, List.set_cons_zero, List.set_cons_succ, i64_w, i32_w]
         rfl
        refine done_ (done_of HT_.out (by kernel_rfl)) ?_
        try go_wp2
        go_ret
        exact ⟨by first | rfl | (simp [errW_none, errW_some] <;> rfl) | (simp [*, errW_none, errW_some] <;> rfl), by repeat (first | (with_reducible first | exact HB.out | apply below_alloc | apply pw_below_drewN | apply below_drew1) | exact HB.out)⟩
      ·rw [if_neg c6] at H
       exact absurd H (by simp)
     ·rw [if_neg c5] at H
      exact absurd H (by simp)
    ·rw [if_neg c4] at H
     have c4b0 : decide (x5_1 < (l0.length : Int)) = false := decide_eq_false c4
     clear c4
     obtain rfl := Option.some.inj H
     go_wp2
     go_ret
     exact ⟨by first | rfl | (simp [errW_none, errW_some] <;> rfl) | (simp [*, errW_none, errW_some] <;> rfl), by repeat (first | (with_reducible first | exact HB.out | apply below_alloc | apply pw_below_drewN | apply below_drew1) | exact HB.out)⟩
 ·rw [if_neg c3] at H
  have c3b0 : ((l0.length : Int) == (l1.length : Int)) = false := beq_eq_false_iff_ne.mpr c3
  have c3b1 : ((l0.length : Int) != (l1.length : Int)) = true := bne_iff_ne.mpr c3
  have c3b2 : (l0.length == l1.length) = false := by first | simpa using c3 | (simp at c3 ⊢; omega)
  obtain rfl := Option.some.inj H
  go_enter Try.func20, Try.ntmps20
  go_wp2
  go_ret
  exact ⟨by first | rfl | (simp [errW_none, errW_some] <;> rfl) | (simp [*, errW_none, errW_some] <;> rfl), by repeat (first | (with_reducible first | exact HB.out | apply below_alloc | apply pw_below_drewN | apply below_drew1) | exact HB.out)⟩

end Go.Proofs.Ytafbnfpabcaebaa.XT
