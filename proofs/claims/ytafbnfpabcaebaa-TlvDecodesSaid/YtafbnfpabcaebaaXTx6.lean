/- Written by xprint.py, a program of this session over the kit's print: what functions of the program come to, walked. -/
import Derived.Test.YtafbnfpabcaebaaXTx0
import Derived.Test.YtafbnfpabcaebaaXTx1
import Derived.Test.YtafbnfpabcaebaaXTx2
import Derived.Test.YtafbnfpabcaebaaXTx4
import Derived.Test.YtafbnfpabcaebaaXTx5
namespace Go.Proofs.Ytafbnfpabcaebaa.XT
open Go.RowKit Go.Proofs.YtafbnfpabcaebaaW.PrintWords Go.Proofs.YtafbnfpabcaebaaW.PrintLast Go.Proofs.YtafbnfpabcaebaaW.PrintMore
attribute [local go_sem] max2_int min2_int max_two min_two max_three min_three max_four min_four   -- for this text's walks alone
set_option linter.unusedVariables false
set_option linter.unusedSimpArgs false

/-! ### tlv_Encode: function 12 -/
def tlv_Encode.f (k : Nat) (l0 : List (S26)) : Option (List Int × Int) := (tlv_check.f k l0 0).bind fun t152 => (if t152 = 0 then ((tlv_size.f k l0).bind fun t153 => (if t153 > 1500 then (some (([] : List Int), 4)) else ((tlv_put.f k ([] : List Int) l0).bind fun t154 => (some (t154, 0))))) else (some (([] : List Int), t152)))
theorem tlv_Encode.mono : ∀ a0 k, LeO (tlv_Encode.f k a0) (tlv_Encode.f (k + 1) a0) := by
 intro a0 k
 unfold tlv_Encode.f
 repeat' first
   | (with_reducible exact tlv_check.mono _ _ _)
   | (with_reducible exact tlv_put.mono _ _ _)
   | (with_reducible exact tlv_size.mono _ _)
   | (with_reducible exact LeO.refl _)
   | (with_reducible exact LeO.none _)
   | (with_reducible refine LeO.ite ?_ ?_)
   | (with_reducible refine LeO.bind ?_ (fun _ => ?_))
   | exact tlv_check.mono _ _ _
   | exact tlv_put.mono _ _ _
   | exact tlv_size.mono _ _
   | exact LeO.none _
   | refine LeO.ite ?_ ?_
   | refine LeO.bind ?_ (fun _ => ?_)
set_option maxHeartbeats 8000000 in
set_option maxRecDepth 100000 in
theorem tlv_Encode.calls (k : Nat) (A0 : Option Addr) (c0 : Nat) (l0 : List (S26)) (r1 : List Int) (r2 : Int) (w : World) (hr0 : Kd.C k26 w A0 l0.length l0) (hc0 : l0.length ≤ c0) (h : tlv_Encode.f k l0 = some (r1, r2)) :
  Calls Try.prog 12 #[.slice A0 l0.length c0] w fun e w' => ∃ v0_ : Value, e = .returned (.tuple #[v0_, .int .i64 r2]) ∧ Kd.R (Kd.int .u8) 5 w' w.heap.size (fun _ => True) v0_ r1 ∧ Below w.heap.size w w' := by
 have HR0 := Aside0.mk hr0
 have HC0 := Aside0.mk hc0
 clear hr0 hc0
 have HB := Aside0.mk (Below.refl w.heap.size w)
 have H : ((tlv_check.f k l0 0).bind fun t152 => (if t152 = 0 then ((tlv_size.f k l0).bind fun t153 => (if t153 > 1500 then (some (([] : List Int), 4)) else ((tlv_put.f k ([] : List Int) l0).bind fun t154 => (some (t154, 0))))) else (some (([] : List Int), t152)))) = some (r1, r2) := h
 clear h
 replace H := Option.bind_eq_some_iff.mp H
 obtain ⟨t152, A20, H⟩ := H
 replace H : (if t152 = 0 then ((tlv_size.f k l0).bind fun t153 => (if t153 > 1500 then (some (([] : List Int), 4)) else ((tlv_put.f k ([] : List Int) l0).bind fun t154 => (some (t154, 0))))) else (some (([] : List Int), t152))) = some (r1, r2) := H
 have A2 := Aside0.mk A20
 clear A20
 by_cases c3 : t152 = 0
 ·rw [if_pos c3] at H
  have c3b0 : (t152 == 0) = true := beq_iff_eq.mpr c3
  have c3b1 : (t152 != 0) = false := bne_eq_false_iff_eq.mpr c3
  clear c3
  replace H := Option.bind_eq_some_iff.mp H
  obtain ⟨t153, A40, H⟩ := H
  replace H : (if t153 > 1500 then (some (([] : List Int), 4)) else ((tlv_put.f k ([] : List Int) l0).bind fun t154 => (some (t154, 0)))) = some (r1, r2) := H
  have A4 := Aside0.mk A40
  clear A40
  by_cases c5 : t153 > 1500
  ·rw [if_pos c5] at H
   have c5b0 : decide (1500 < t153) = true := decide_eq_true c5
   clear c5
   simp only [Option.some.injEq, Prod.mk.injEq] at H
   obtain ⟨rfl, rfl⟩ := H
   go_enter Try.func12, Try.ntmps12
   go_wp2_with (first | ((with_reducible refine gate_callee (f := 24) rfl ?_); refine goesL_ (some 6) rfl rfl Try.func24 (by kernel_rfl) rfl #[.slice A0 l0.length c0, .int .i64 0] rfl (by (try simp only [List.map_toArray, List.map_cons, List.map_nil]); first | done | rfl | (simp only [List.length_drop, List.length_take]; rfl)) ?_; (with_reducible refine (tlv_check.calls k _ _ l0 0 t152 _ ?side1 ?side2 A2.out).mono ?_); (case side1 => repeat (first | exact HR0.out | (with_reducible refine Kd.C_alloc ?_ _) | (with_reducible refine Kd.C_drewN ?_ _) | (with_reducible refine Kd.C_drew ?_))); (case side2 => exact HC0.out); rintro e w6 ⟨rfl, hb⟩; refine ⟨_, rfl, ?_⟩; have n0_ := Aside0.mk (below_step (by repeat (first | (with_reducible first | exact HB.out | apply below_alloc | apply pw_below_drewN | apply below_drew1) | exact HB.out)) hb); clear HB; have HB := n0_; clear n0_; (try clear hb); (try clear hb2); (try clear hk); (try clear hi)) | ((with_reducible refine gate_callee (f := 25) rfl ?_); refine goesL_ (some 11) rfl rfl Try.func25 (by kernel_rfl) rfl #[.slice A0 l0.length c0] rfl (by (try simp only [List.map_toArray, List.map_cons, List.map_nil]); first | done | rfl | (simp only [List.length_drop, List.length_take]; rfl)) ?_; (with_reducible refine (tlv_size.calls k _ _ l0 t153 _ ?side1 ?side2 A4.out).mono ?_); (case side1 => repeat (first | exact (Kd.C_below HR0.out HB.out) | (with_reducible refine Kd.C_alloc ?_ _) | (with_reducible refine Kd.C_drewN ?_ _) | (with_reducible refine Kd.C_drew ?_))); (case side2 => exact HC0.out); rintro e w7 ⟨rfl, hb⟩; refine ⟨_, rfl, ?_⟩; have n0_ := Aside0.mk (below_step (by repeat (first | (with_reducible first | exact HB.out | apply below_alloc | apply pw_below_drewN | apply below_drew1) | exact HB.out)) hb); clear HB; have HB := n0_; clear n0_; (try clear hb); (try clear hb2); (try clear hk); (try clear hi)))
   go_ret2
   exact ⟨_, by first | rfl | (simp [errW_none, errW_some] <;> rfl) | (simp [*, errW_none, errW_some] <;> rfl), by first | exact Kd.R_nil _ _ _ _ _ | exact Kd.N_nil _ _ _ _ _ | exact Kd.V_nil _ _ _ _ _ | exact Kd.Q_nil _ _ _ _ _ | exact Kd.S_nil _ _ _ _ _, by repeat (first | (with_reducible first | exact HB.out | apply below_alloc | apply pw_below_drewN | apply below_drew1) | exact HB.out)⟩
  ·rw [if_neg c5] at H
   have c5b0 : decide (1500 < t153) = false := decide_eq_false c5
   clear c5
   replace H := Option.bind_eq_some_iff.mp H
   obtain ⟨t154, A80, H⟩ := H
   replace H : (some (t154, 0)) = some (r1, r2) := H
   have A8 := Aside0.mk A80
   clear A80
   simp only [Option.some.injEq, Prod.mk.injEq] at H
   obtain ⟨rfl, rfl⟩ := H
   go_enter Try.func12, Try.ntmps12
   go_wp2_with (first | ((with_reducible refine gate_callee (f := 24) rfl ?_); refine goesL_ (some 6) rfl rfl Try.func24 (by kernel_rfl) rfl #[.slice A0 l0.length c0, .int .i64 0] rfl (by (try simp only [List.map_toArray, List.map_cons, List.map_nil]); first | done | rfl | (simp only [List.length_drop, List.length_take]; rfl)) ?_; (with_reducible refine (tlv_check.calls k _ _ l0 0 t152 _ ?side1 ?side2 A2.out).mono ?_); (case side1 => repeat (first | exact HR0.out | (with_reducible refine Kd.C_alloc ?_ _) | (with_reducible refine Kd.C_drewN ?_ _) | (with_reducible refine Kd.C_drew ?_))); (case side2 => exact HC0.out); rintro e w9 ⟨rfl, hb⟩; refine ⟨_, rfl, ?_⟩; have n0_ := Aside0.mk (below_step (by repeat (first | (with_reducible first | exact HB.out | apply below_alloc | apply pw_below_drewN | apply below_drew1) | exact HB.out)) hb); clear HB; have HB := n0_; clear n0_; (try clear hb); (try clear hb2); (try clear hk); (try clear hi)) | ((with_reducible refine gate_callee (f := 25) rfl ?_); refine goesL_ (some 11) rfl rfl Try.func25 (by kernel_rfl) rfl #[.slice A0 l0.length c0] rfl (by (try simp only [List.map_toArray, List.map_cons, List.map_nil]); first | done | rfl | (simp only [List.length_drop, List.length_take]; rfl)) ?_; (with_reducible refine (tlv_size.calls k _ _ l0 t153 _ ?side1 ?side2 A4.out).mono ?_); (case side1 => repeat (first | exact (Kd.C_below HR0.out HB.out) | (with_reducible refine Kd.C_alloc ?_ _) | (with_reducible refine Kd.C_drewN ?_ _) | (with_reducible refine Kd.C_drew ?_))); (case side2 => exact HC0.out); rintro e w10 ⟨rfl, hb⟩; refine ⟨_, rfl, ?_⟩; have n0_ := Aside0.mk (below_step (by repeat (first | (with_reducible first | exact HB.out | apply below_alloc | apply pw_below_drewN | apply below_drew1) | exact HB.out)) hb); clear HB; have HB := n0_; clear n0_; (try clear hb); (try clear hb2); (try clear hk); (try clear hi)) | ((with_reducible refine gate_callee (f := 26) rfl ?_); refine goesL_ (some 14) rfl rfl Try.func26 (by kernel_rfl) rfl #[.slice none 0 0, .slice A0 l0.length c0] rfl (by (try simp only [List.map_toArray, List.map_cons, List.map_nil]); first | done | rfl | (simp only [List.length_drop, List.length_take]; rfl)) ?_; (refine (tlv_put.calls k (fun k_ => some k_ = (.slice none 0 0 : Value).ownBlock) (.slice none 0 0) ([] : List Int) (fun k_ => k_ < w.heap.size) _ _ l0 t154 w _ ?side1 ?side2 ?side3 A8.out).mono ?_); (case side1 => repeat (first | (with_reducible first | exact HB.out | apply below_alloc | apply pw_below_drewN | apply below_drew1) | exact HB.out)); (case side2 => exact Kd.R_nil _ _ _ _ _); (case side3 => exact Kd.V_mono (Kd.V_mk HC0.out (Kd.F_below (Kd.C_F k26_heap HR0.out) (by repeat (first | (with_reducible first | exact HB.out | apply below_alloc | apply pw_below_drewN | apply below_drew1) | exact HB.out)))) (fun k_ hk_ => ⟨hk_, (by simp [Value.ownBlock])⟩)); rintro e w11 ⟨v155, rfl, ho0, hb, hkp⟩; refine ⟨_, rfl, ?_⟩; have n0_ := Aside0.mk (Kd.R_mono (ok' := fun k_ => True) ho0 (fun k_ hk_ => trivial)); have n1_ := Aside0.mk (hb); clear HB; have HO156 := n0_; have HB := n1_; clear n0_ n1_; (try clear hb); (try clear hkp); (try clear ho0)))
   go_ret2
   exact ⟨_, by first | rfl | (simp [errW_none, errW_some] <;> rfl) | (simp [*, errW_none, errW_some] <;> rfl), by (with_reducible repeat (first | apply Kd.R_alloc | apply Kd.R_drewN | apply Kd.R_drew)); exact HO156.out, by repeat (first | (with_reducible first | exact HB.out | apply below_alloc | apply pw_below_drewN | apply below_drew1) | exact HB.out)⟩
 ·rw [if_neg c3] at H
  have c3b0 : (t152 == 0) = false := beq_eq_false_iff_ne.mpr c3
  have c3b1 : (t152 != 0) = true := bne_iff_ne.mpr c3
  simp only [Option.some.injEq, Prod.mk.injEq] at H
  obtain ⟨rfl, rfl⟩ := H
  go_enter Try.func12, Try.ntmps12
  go_wp2_with (first | ((with_reducible refine gate_callee (f := 24) rfl ?_); refine goesL_ (some 6) rfl rfl Try.func24 (by kernel_rfl) rfl #[.slice A0 l0.length c0, .int .i64 0] rfl (by (try simp only [List.map_toArray, List.map_cons, List.map_nil]); first | done | rfl | (simp only [List.length_drop, List.length_take]; rfl)) ?_; (with_reducible refine (tlv_check.calls k _ _ l0 0 t152 _ ?side1 ?side2 A2.out).mono ?_); (case side1 => repeat (first | exact HR0.out | (with_reducible refine Kd.C_alloc ?_ _) | (with_reducible refine Kd.C_drewN ?_ _) | (with_reducible refine Kd.C_drew ?_))); (case side2 => exact HC0.out); rintro e w12 ⟨rfl, hb⟩; refine ⟨_, rfl, ?_⟩; have n0_ := Aside0.mk (below_step (by repeat (first | (with_reducible first | exact HB.out | apply below_alloc | apply pw_below_drewN | apply below_drew1) | exact HB.out)) hb); clear HB; have HB := n0_; clear n0_; (try clear hb); (try clear hb2); (try clear hk); (try clear hi)))
  go_ret2
  exact ⟨_, by first | rfl | (simp [errW_none, errW_some] <;> rfl) | (simp [*, errW_none, errW_some] <;> rfl), by first | exact Kd.R_nil _ _ _ _ _ | exact Kd.N_nil _ _ _ _ _ | exact Kd.V_nil _ _ _ _ _ | exact Kd.Q_nil _ _ _ _ _ | exact Kd.S_nil _ _ _ _ _, by repeat (first | (with_reducible first | exact HB.out | apply below_alloc | apply pw_below_drewN | apply below_drew1) | exact HB.out)⟩

/-! ### substationlaw10_known: function 10 -/
def substationlaw10_known.f (k : Nat)  : Option (Bool) := (tlv_Encode.f k (([(⟨48, ([] : List Int), (([(⟨5, ([] : List Int), ([] : List (S26))⟩ : S26)] : List (S26)))⟩ : S26)] : List (S26)))).bind fun bt163 => (if bt163.2 = 0 then (if (strOfNums bt163.1).toList = ([48, 2, 5, 0] : List UInt8) then ((tlv_Nested.f 48).bind fun t167 => (if t167 = true then ((tlv_Nested.f 5).bind fun t168 => (some (!t168))) else (some false))) else (some false)) else (some false))
theorem substationlaw10_known.mono : ∀ k, LeO (substationlaw10_known.f k ) (substationlaw10_known.f (k + 1) ) := by
 intro  k
 unfold substationlaw10_known.f
 repeat' first
   | (with_reducible exact tlv_Encode.mono _ _)
   | (with_reducible exact LeO.refl _)
   | (with_reducible exact LeO.none _)
   | (with_reducible refine LeO.ite ?_ ?_)
   | (with_reducible refine LeO.bind ?_ (fun _ => ?_))
   | exact tlv_Encode.mono _ _
   | exact LeO.none _
   | refine LeO.ite ?_ ?_
   | refine LeO.bind ?_ (fun _ => ?_)
set_option maxHeartbeats 8000000 in
set_option maxRecDepth 100000 in
theorem substationlaw10_known.calls (k : Nat)  (r : Bool) (w : World) (h : substationlaw10_known.f k  = some r) :
  Calls Try.prog 10 #[] w fun e w' => e = .returned (.bool r) ∧ Below w.heap.size w w' := by
 have hu26 := Try.underlying26
 have HB := Aside0.mk (Below.refl w.heap.size w)
 have H : ((tlv_Encode.f k (([(⟨48, ([] : List Int), (([(⟨5, ([] : List Int), ([] : List (S26))⟩ : S26)] : List (S26)))⟩ : S26)] : List (S26)))).bind fun bt163 => (if bt163.2 = 0 then (if (strOfNums bt163.1).toList = ([48, 2, 5, 0] : List UInt8) then ((tlv_Nested.f 48).bind fun t167 => (if t167 = true then ((tlv_Nested.f 5).bind fun t168 => (some (!t168))) else (some false))) else (some false)) else (some false))) = some r := h
 clear h
 obtain ⟨y157, hy157⟩ : ∃ y_ : List (S26), y_ = (([(⟨5, ([] : List Int), ([] : List (S26))⟩ : S26)] : List (S26))) := ⟨_, rfl⟩
 replace H : ((tlv_Encode.f k (([(⟨48, ([] : List Int), y157⟩ : S26)] : List (S26)))).bind fun bt163 => (if bt163.2 = 0 then (if (strOfNums bt163.1).toList = ([48, 2, 5, 0] : List UInt8) then ((tlv_Nested.f 48).bind fun t167 => (if t167 = true then ((tlv_Nested.f 5).bind fun t168 => (some (!t168))) else (some false))) else (some false)) else (some false))) = some r := by first | (rw [hy157]; with_reducible exact H) | (have H2_ := (Option.bind_some _ _).symm.trans H; rw [hy157]; with_reducible exact H2_) | (have H2_ := (Option.bind_some _ _).symm.trans H; with_reducible exact H2_) | with_reducible exact H | (rw [hy157]; exact H) | exact H
 have Ny157 := Aside0.mk hy157
 clear hy157
 obtain ⟨y160, hy160⟩ : ∃ y_ : List (S26), y_ = (([(⟨48, ([] : List Int), y157⟩ : S26)] : List (S26))) := ⟨_, rfl⟩
 replace H : ((tlv_Encode.f k y160).bind fun bt163 => (if bt163.2 = 0 then (if (strOfNums bt163.1).toList = ([48, 2, 5, 0] : List UInt8) then ((tlv_Nested.f 48).bind fun t167 => (if t167 = true then ((tlv_Nested.f 5).bind fun t168 => (some (!t168))) else (some false))) else (some false)) else (some false))) = some r := by first | (rw [hy160]; with_reducible exact H) | (have H2_ := (Option.bind_some _ _).symm.trans H; rw [hy160]; with_reducible exact H2_) | (have H2_ := (Option.bind_some _ _).symm.trans H; with_reducible exact H2_) | with_reducible exact H | (rw [hy160]; exact H) | exact H
 have Ny160 := Aside0.mk hy160
 clear hy160
 replace H := Option.bind_eq_some_iff.mp H
 obtain ⟨⟨t163, t164⟩, A10, H⟩ := H
 replace H : (if t164 = 0 then (if (strOfNums t163).toList = ([48, 2, 5, 0] : List UInt8) then ((tlv_Nested.f 48).bind fun t167 => (if t167 = true then ((tlv_Nested.f 5).bind fun t168 => (some (!t168))) else (some false))) else (some false)) else (some false)) = some r := H
 have A1 := Aside0.mk A10
 clear A10
 by_cases c2 : t164 = 0
 ·rw [if_pos c2] at H
  have c2b0 : (t164 == 0) = true := beq_iff_eq.mpr c2
  have c2b1 : (t164 != 0) = false := bne_eq_false_iff_eq.mpr c2
  clear c2
  by_cases c3 : (strOfNums t163).toList = ([48, 2, 5, 0] : List UInt8)
  ·rw [if_pos c3] at H
   have c3b0 : ((strOfNums t163).toList == ([48, 2, 5, 0] : List UInt8)) = true := beq_iff_eq.mpr c3
   have c3b1 : ((strOfNums t163).toList != ([48, 2, 5, 0] : List UInt8)) = false := bne_eq_false_iff_eq.mpr c3
   clear c3
   replace H := Option.bind_eq_some_iff.mp H
   obtain ⟨t167, A40, H⟩ := H
   replace H : (if t167 = true then ((tlv_Nested.f 5).bind fun t168 => (some (!t168))) else (some false)) = some r := H
   have A4 := Aside0.mk A40
   clear A40
   by_cases c5 : t167 = true
   ·subst c5
    have H1 : ((tlv_Nested.f 5).bind fun t168 => (some (!t168))) = some r := by rw [if_pos rfl] at H; exact H
    clear H
    have H := H1
    clear H1
    replace H := Option.bind_eq_some_iff.mp H
    obtain ⟨t168, A60, H⟩ := H
    replace H : (some (!t168)) = some r := H
    have A6 := Aside0.mk A60
    clear A60
    obtain rfl := Option.some.inj H
    go_enter Try.func10, Try.ntmps10
    go_wp2_with (first | ((with_reducible refine gate_dst (N := 5) rfl ?_); refine Kd.N_lit k26 _ 26 ?hg (N' := 5) ?hd (xs := ([(⟨5, ([] : List Int), ([] : List (S26))⟩ : S26)] : List (S26))) (inner := [.int .i64 5, .slice none 0 0, .slice none 0 0]) (ok := (fun _ => True)) (okp := (fun _ => True)) ?hr ?hp (fun _ hk => hk) ((show ∀ k_, w.heap.size ≤ k_ → (fun _ => True) k_ from fun k_ hk => trivial) _ (Nat.le_refl _)) (Below.refl _ _) (Nat.le_refl _) (by simp) ?_; (case hd => rfl); (case hg => rfl); (case hr => first | (go_simp; done) | (go_simp; rfl)); (case hp => exact (Reps.c3 (show Kd.FK k26 _ _ (⟨5, ([] : List Int), ([] : List (S26))⟩ : S26) [.int .i64 5, .slice none 0 0, .slice none 0 0] from (k26_mkF _ _ (⟨5, ([] : List Int), ([] : List (S26))⟩ : S26) (Nat.le_refl _) (Kd.F_nil _ _ _) (Nat.le_refl _) (Kd.F_nil _ _ _))) (Reps.none _ _))); intro v158 w7 ho8 hb hg_ hnew_; clear hg_ hnew_; (first | rw [← Ny157.out] at ho8 | (simp only [Int.reduceToNat] at ho8; rw [← Ny157.out] at ho8)); have n0_ := Aside0.mk (Kd.N_lower ho8 (below_size (by repeat (first | (with_reducible first | exact HB.out | apply below_alloc | apply pw_below_drewN | apply below_drew1) | exact HB.out)))); have n1_ := Aside0.mk (below_step (by repeat (first | (with_reducible first | exact HB.out | apply below_alloc | apply pw_below_drewN | apply below_drew1) | exact HB.out)) hb); clear HB; have HO159 := n0_; have HB := n1_; clear n0_ n1_; clear hb ho8; obtain ⟨Ao9, co9, eo9⟩ := Kd.N_slice HO159.out; subst eo9) | ((with_reducible refine gate_dst (N := 7) rfl ?_); refine Kd.N_lit k26 _ 26 ?hg (N' := 7) ?hd (xs := ([(⟨48, ([] : List Int), y157⟩ : S26)] : List (S26))) (inner := [.int .i64 48, .slice none 0 0, .slice Ao9 y157.length co9]) (ok := (fun _ => True)) (okp := (fun _ => True)) ?hr ?hp (fun _ hk => hk) ((show ∀ k_, w7.heap.size ≤ k_ → (fun _ => True) k_ from fun k_ hk => trivial) _ (Nat.le_refl _)) (Below.refl _ _) (Nat.le_refl _) (by simp) ?_; (case hd => rfl); (case hg => rfl); (case hr => first | (go_simp; done) | (go_simp; rfl)); (case hp => exact (Reps.c3 (show Kd.FK k26 _ _ (⟨48, ([] : List Int), y157⟩ : S26) [.int .i64 48, .slice none 0 0, .slice Ao9 y157.length co9] from (k26_mkF _ _ (⟨48, ([] : List Int), y157⟩ : S26) (Nat.le_refl _) (Kd.F_nil _ _ _) (Kd.N_reads' (Kd.N_mono (ok' := (fun _ => True)) (HO159.out) (fun k_ hk => trivial))).2.1 (Kd.N_F (Kd.N_mono (ok' := (fun _ => True)) (HO159.out) (fun k_ hk => trivial))))) (Reps.none _ _))); intro v161 w10 ho11 hb hg_ hnew_; clear hg_ hnew_; (first | rw [← Ny160.out] at ho11 | (simp only [Int.reduceToNat] at ho11; rw [← Ny160.out] at ho11)); have n0_ := Aside0.mk (Kd.N_lower ho11 (below_size (by repeat (first | (with_reducible first | exact HB.out | apply below_alloc | apply pw_below_drewN | apply below_drew1) | exact HB.out)))); have n1_ := Aside0.mk (below_step (by repeat (first | (with_reducible first | exact HB.out | apply below_alloc | apply pw_below_drewN | apply below_drew1) | exact HB.out)) hb); clear HB; clear HO159; have HO162 := n0_; have HB := n1_; clear n0_ n1_; clear hb ho11; obtain ⟨Ao12, co12, eo12⟩ := Kd.N_slice HO162.out; subst eo12) | ((with_reducible refine gate_callee (f := 12) rfl ?_); refine goesL_ (some 8) rfl rfl Try.func12 (by kernel_rfl) rfl #[.slice Ao12 y160.length co12] rfl (by (try simp only [List.map_toArray, List.map_cons, List.map_nil]); first | done | rfl | (simp only [List.length_drop, List.length_take]; rfl)) ?_; (with_reducible refine (tlv_Encode.calls k _ _ y160 t163 t164 _ ?side1 ?side2 A1.out).mono ?_); (case side1 => repeat (first | exact (Kd.N_reads' HO162.out).2.2 | (with_reducible refine Kd.C_alloc ?_ _) | (with_reducible refine Kd.C_drewN ?_ _) | (with_reducible refine Kd.C_drew ?_))); (case side2 => exact (Kd.N_reads' HO162.out).2.1); rintro e w13 ⟨v165, rfl, ho0, hb⟩; refine ⟨_, rfl, ?_⟩; have n0_ := Aside0.mk (Kd.N_elder' (by (with_reducible repeat (first | apply Kd.N_alloc | apply Kd.N_drewN | apply Kd.N_drew)); exact HO162.out) (Kd.R_base ho0) hb); have n1_ := Aside0.mk (Kd.R_lower ho0 (below_size (by repeat (first | (with_reducible first | exact HB.out | apply below_alloc | apply pw_below_drewN | apply below_drew1) | exact HB.out)))); have n2_ := Aside0.mk (below_step (by repeat (first | (with_reducible first | exact HB.out | apply below_alloc | apply pw_below_drewN | apply below_drew1) | exact HB.out)) hb); clear HO162; clear HB; have HO162 := n0_; have HO166 := n1_; have HB := n2_; clear n0_ n1_ n2_; (try clear hb); (try clear hb2); (try clear hk); (try clear hi); (try clear ho0); have hcv14 := own_string (P := Try.prog) Try.underlying22 Try.underlying5 Try.underlying9 (Kd.own_of_R HO166.out)) | (go_at_call 13; (with_reducible refine (tlv_Nested.calls 48 true _ A4.out).mono ?_); rintro e w' ⟨rfl, ⟨nd, rfl⟩⟩) | (go_at_call 13; (with_reducible refine (tlv_Nested.calls 5 t168 _ A6.out).mono ?_); rintro e w' ⟨rfl, ⟨nd, rfl⟩⟩))
    go_ret
    exact ⟨by first | rfl | (simp [errW_none, errW_some] <;> rfl) | (simp [*, errW_none, errW_some] <;> rfl), by repeat (first | (with_reducible first | exact HB.out | apply below_alloc | apply pw_below_drewN | apply below_drew1) | exact HB.out)⟩
   ·replace c5 := Bool.eq_false_iff.mpr c5
    subst c5
    have H1 : (some false) = some r := by rw [if_neg (show ¬ (false = true) by decide)] at H; exact H
    clear H
    have H := H1
    clear H1
    obtain rfl := Option.some.inj H
    go_enter Try.func10, Try.ntmps10
    go_wp2_with (first | ((with_reducible refine gate_dst (N := 5) rfl ?_); refine Kd.N_lit k26 _ 26 ?hg (N' := 5) ?hd (xs := ([(⟨5, ([] : List Int), ([] : List (S26))⟩ : S26)] : List (S26))) (inner := [.int .i64 5, .slice none 0 0, .slice none 0 0]) (ok := (fun _ => True)) (okp := (fun _ => True)) ?hr ?hp (fun _ hk => hk) ((show ∀ k_, w.heap.size ≤ k_ → (fun _ => True) k_ from fun k_ hk => trivial) _ (Nat.le_refl _)) (Below.refl _ _) (Nat.le_refl _) (by simp) ?_; (case hd => rfl); (case hg => rfl); (case hr => first | (go_simp; done) | (go_simp; rfl)); (case hp => exact (Reps.c3 (show Kd.FK k26 _ _ (⟨5, ([] : List Int), ([] : List (S26))⟩ : S26) [.int .i64 5, .slice none 0 0, .slice none 0 0] from (k26_mkF _ _ (⟨5, ([] : List Int), ([] : List (S26))⟩ : S26) (Nat.le_refl _) (Kd.F_nil _ _ _) (Nat.le_refl _) (Kd.F_nil _ _ _))) (Reps.none _ _))); intro v158 w15 ho16 hb hg_ hnew_; clear hg_ hnew_; (first | rw [← Ny157.out] at ho16 | (simp only [Int.reduceToNat] at ho16; rw [← Ny157.out] at ho16)); have n0_ := Aside0.mk (Kd.N_lower ho16 (below_size (by repeat (first | (with_reducible first | exact HB.out | apply below_alloc | apply pw_below_drewN | apply below_drew1) | exact HB.out)))); have n1_ := Aside0.mk (below_step (by repeat (first | (with_reducible first | exact HB.out | apply below_alloc | apply pw_below_drewN | apply below_drew1) | exact HB.out)) hb); clear HB; have HO159 := n0_; have HB := n1_; clear n0_ n1_; clear hb ho16; obtain ⟨Ao17, co17, eo17⟩ := Kd.N_slice HO159.out; subst eo17) | ((with_reducible refine gate_dst (N := 7) rfl ?_); refine Kd.N_lit k26 _ 26 ?hg (N' := 7) ?hd (xs := ([(⟨48, ([] : List Int), y157⟩ : S26)] : List (S26))) (inner := [.int .i64 48, .slice none 0 0, .slice Ao17 y157.length co17]) (ok := (fun _ => True)) (okp := (fun _ => True)) ?hr ?hp (fun _ hk => hk) ((show ∀ k_, w15.heap.size ≤ k_ → (fun _ => True) k_ from fun k_ hk => trivial) _ (Nat.le_refl _)) (Below.refl _ _) (Nat.le_refl _) (by simp) ?_; (case hd => rfl); (case hg => rfl); (case hr => first | (go_simp; done) | (go_simp; rfl)); (case hp => exact (Reps.c3 (show Kd.FK k26 _ _ (⟨48, ([] : List Int), y157⟩ : S26) [.int .i64 48, .slice none 0 0, .slice Ao17 y157.length co17] from (k26_mkF _ _ (⟨48, ([] : List Int), y157⟩ : S26) (Nat.le_refl _) (Kd.F_nil _ _ _) (Kd.N_reads' (Kd.N_mono (ok' := (fun _ => True)) (HO159.out) (fun k_ hk => trivial))).2.1 (Kd.N_F (Kd.N_mono (ok' := (fun _ => True)) (HO159.out) (fun k_ hk => trivial))))) (Reps.none _ _))); intro v161 w18 ho19 hb hg_ hnew_; clear hg_ hnew_; (first | rw [← Ny160.out] at ho19 | (simp only [Int.reduceToNat] at ho19; rw [← Ny160.out] at ho19)); have n0_ := Aside0.mk (Kd.N_lower ho19 (below_size (by repeat (first | (with_reducible first | exact HB.out | apply below_alloc | apply pw_below_drewN | apply below_drew1) | exact HB.out)))); have n1_ := Aside0.mk (below_step (by repeat (first | (with_reducible first | exact HB.out | apply below_alloc | apply pw_below_drewN | apply below_drew1) | exact HB.out)) hb); clear HB; clear HO159; have HO162 := n0_; have HB := n1_; clear n0_ n1_; clear hb ho19; obtain ⟨Ao20, co20, eo20⟩ := Kd.N_slice HO162.out; subst eo20) | ((with_reducible refine gate_callee (f := 12) rfl ?_); refine goesL_ (some 8) rfl rfl Try.func12 (by kernel_rfl) rfl #[.slice Ao20 y160.length co20] rfl (by (try simp only [List.map_toArray, List.map_cons, List.map_nil]); first | done | rfl | (simp only [List.length_drop, List.length_take]; rfl)) ?_; (with_reducible refine (tlv_Encode.calls k _ _ y160 t163 t164 _ ?side1 ?side2 A1.out).mono ?_); (case side1 => repeat (first | exact (Kd.N_reads' HO162.out).2.2 | (with_reducible refine Kd.C_alloc ?_ _) | (with_reducible refine Kd.C_drewN ?_ _) | (with_reducible refine Kd.C_drew ?_))); (case side2 => exact (Kd.N_reads' HO162.out).2.1); rintro e w21 ⟨v165, rfl, ho0, hb⟩; refine ⟨_, rfl, ?_⟩; have n0_ := Aside0.mk (Kd.N_elder' (by (with_reducible repeat (first | apply Kd.N_alloc | apply Kd.N_drewN | apply Kd.N_drew)); exact HO162.out) (Kd.R_base ho0) hb); have n1_ := Aside0.mk (Kd.R_lower ho0 (below_size (by repeat (first | (with_reducible first | exact HB.out | apply below_alloc | apply pw_below_drewN | apply below_drew1) | exact HB.out)))); have n2_ := Aside0.mk (below_step (by repeat (first | (with_reducible first | exact HB.out | apply below_alloc | apply pw_below_drewN | apply below_drew1) | exact HB.out)) hb); clear HO162; clear HB; have HO162 := n0_; have HO166 := n1_; have HB := n2_; clear n0_ n1_ n2_; (try clear hb); (try clear hb2); (try clear hk); (try clear hi); (try clear ho0); have hcv22 := own_string (P := Try.prog) Try.underlying22 Try.underlying5 Try.underlying9 (Kd.own_of_R HO166.out)) | (go_at_call 13; (with_reducible refine (tlv_Nested.calls 48 false _ A4.out).mono ?_); rintro e w' ⟨rfl, ⟨nd, rfl⟩⟩))
    go_ret
    exact ⟨by first | rfl | (simp [errW_none, errW_some] <;> rfl) | (simp [*, errW_none, errW_some] <;> rfl), by repeat (first | (with_reducible first | exact HB.out | apply below_alloc | apply pw_below_drewN | apply below_drew1) | exact HB.out)⟩
  ·rw [if_neg c3] at H
   have c3b0 : ((strOfNums t163).toList == ([48, 2, 5, 0] : List UInt8)) = false := beq_eq_false_iff_ne.mpr c3
   have c3b1 : ((strOfNums t163).toList != ([48, 2, 5, 0] : List UInt8)) = true := bne_iff_ne.mpr c3
   obtain rfl := Option.some.inj H
   go_enter Try.func10, Try.ntmps10
   go_wp2_with (first | ((with_reducible refine gate_dst (N := 5) rfl ?_); refine Kd.N_lit k26 _ 26 ?hg (N' := 5) ?hd (xs := ([(⟨5, ([] : List Int), ([] : List (S26))⟩ : S26)] : List (S26))) (inner := [.int .i64 5, .slice none 0 0, .slice none 0 0]) (ok := (fun _ => True)) (okp := (fun _ => True)) ?hr ?hp (fun _ hk => hk) ((show ∀ k_, w.heap.size ≤ k_ → (fun _ => True) k_ from fun k_ hk => trivial) _ (Nat.le_refl _)) (Below.refl _ _) (Nat.le_refl _) (by simp) ?_; (case hd => rfl); (case hg => rfl); (case hr => first | (go_simp; done) | (go_simp; rfl)); (case hp => exact (Reps.c3 (show Kd.FK k26 _ _ (⟨5, ([] : List Int), ([] : List (S26))⟩ : S26) [.int .i64 5, .slice none 0 0, .slice none 0 0] from (k26_mkF _ _ (⟨5, ([] : List Int), ([] : List (S26))⟩ : S26) (Nat.le_refl _) (Kd.F_nil _ _ _) (Nat.le_refl _) (Kd.F_nil _ _ _))) (Reps.none _ _))); intro v158 w23 ho24 hb hg_ hnew_; clear hg_ hnew_; (first | rw [← Ny157.out] at ho24 | (simp only [Int.reduceToNat] at ho24; rw [← Ny157.out] at ho24)); have n0_ := Aside0.mk (Kd.N_lower ho24 (below_size (by repeat (first | (with_reducible first | exact HB.out | apply below_alloc | apply pw_below_drewN | apply below_drew1) | exact HB.out)))); have n1_ := Aside0.mk (below_step (by repeat (first | (with_reducible first | exact HB.out | apply below_alloc | apply pw_below_drewN | apply below_drew1) | exact HB.out)) hb); clear HB; have HO159 := n0_; have HB := n1_; clear n0_ n1_; clear hb ho24; obtain ⟨Ao25, co25, eo25⟩ := Kd.N_slice HO159.out; subst eo25) | ((with_reducible refine gate_dst (N := 7) rfl ?_); refine Kd.N_lit k26 _ 26 ?hg (N' := 7) ?hd (xs := ([(⟨48, ([] : List Int), y157⟩ : S26)] : List (S26))) (inner := [.int .i64 48, .slice none 0 0, .slice Ao25 y157.length co25]) (ok := (fun _ => True)) (okp := (fun _ => True)) ?hr ?hp (fun _ hk => hk) ((show ∀ k_, w23.heap.size ≤ k_ → (fun _ => True) k_ from fun k_ hk => trivial) _ (Nat.le_refl _)) (Below.refl _ _) (Nat.le_refl _) (by simp) ?_; (case hd => rfl); (case hg => rfl); (case hr => first | (go_simp; done) | (go_simp; rfl)); (case hp => exact (Reps.c3 (show Kd.FK k26 _ _ (⟨48, ([] : List Int), y157⟩ : S26) [.int .i64 48, .slice none 0 0, .slice Ao25 y157.length co25] from (k26_mkF _ _ (⟨48, ([] : List Int), y157⟩ : S26) (Nat.le_refl _) (Kd.F_nil _ _ _) (Kd.N_reads' (Kd.N_mono (ok' := (fun _ => True)) (HO159.out) (fun k_ hk => trivial))).2.1 (Kd.N_F (Kd.N_mono (ok' := (fun _ => True)) (HO159.out) (fun k_ hk => trivial))))) (Reps.none _ _))); intro v161 w26 ho27 hb hg_ hnew_; clear hg_ hnew_; (first | rw [← Ny160.out] at ho27 | (simp only [Int.reduceToNat] at ho27; rw [← Ny160.out] at ho27)); have n0_ := Aside0.mk (Kd.N_lower ho27 (below_size (by repeat (first | (with_reducible first | exact HB.out | apply below_alloc | apply pw_below_drewN | apply below_drew1) | exact HB.out)))); have n1_ := Aside0.mk (below_step (by repeat (first | (with_reducible first | exact HB.out | apply below_alloc | apply pw_below_drewN | apply below_drew1) | exact HB.out)) hb); clear HB; clear HO159; have HO162 := n0_; have HB := n1_; clear n0_ n1_; clear hb ho27; obtain ⟨Ao28, co28, eo28⟩ := Kd.N_slice HO162.out; subst eo28) | ((with_reducible refine gate_callee (f := 12) rfl ?_); refine goesL_ (some 8) rfl rfl Try.func12 (by kernel_rfl) rfl #[.slice Ao28 y160.length co28] rfl (by (try simp only [List.map_toArray, List.map_cons, List.map_nil]); first | done | rfl | (simp only [List.length_drop, List.length_take]; rfl)) ?_; (with_reducible refine (tlv_Encode.calls k _ _ y160 t163 t164 _ ?side1 ?side2 A1.out).mono ?_); (case side1 => repeat (first | exact (Kd.N_reads' HO162.out).2.2 | (with_reducible refine Kd.C_alloc ?_ _) | (with_reducible refine Kd.C_drewN ?_ _) | (with_reducible refine Kd.C_drew ?_))); (case side2 => exact (Kd.N_reads' HO162.out).2.1); rintro e w29 ⟨v165, rfl, ho0, hb⟩; refine ⟨_, rfl, ?_⟩; have n0_ := Aside0.mk (Kd.N_elder' (by (with_reducible repeat (first | apply Kd.N_alloc | apply Kd.N_drewN | apply Kd.N_drew)); exact HO162.out) (Kd.R_base ho0) hb); have n1_ := Aside0.mk (Kd.R_lower ho0 (below_size (by repeat (first | (with_reducible first | exact HB.out | apply below_alloc | apply pw_below_drewN | apply below_drew1) | exact HB.out)))); have n2_ := Aside0.mk (below_step (by repeat (first | (with_reducible first | exact HB.out | apply below_alloc | apply pw_below_drewN | apply below_drew1) | exact HB.out)) hb); clear HO162; clear HB; have HO162 := n0_; have HO166 := n1_; have HB := n2_; clear n0_ n1_ n2_; (try clear hb); (try clear hb2); (try clear hk); (try clear hi); (try clear ho0); have hcv30 := own_string (P := Try.prog) Try.underlying22 Try.underlying5 Try.underlying9 (Kd.own_of_R HO166.out)))
   go_ret
   exact ⟨by first | rfl | (simp [errW_none, errW_some] <;> rfl) | (simp [*, errW_none, errW_some] <;> rfl), by repeat (first | (with_reducible first | exact HB.out | apply below_alloc | apply pw_below_drewN | apply below_drew1) | exact HB.out)⟩
 ·rw [if_neg c2] at H
  have c2b0 : (t164 == 0) = false := beq_eq_false_iff_ne.mpr c2
  have c2b1 : (t164 != 0) = true := bne_iff_ne.mpr c2
  obtain rfl := Option.some.inj H
  go_enter Try.func10, Try.ntmps10
  go_wp2_with (first | ((with_reducible refine gate_dst (N := 5) rfl ?_); refine Kd.N_lit k26 _ 26 ?hg (N' := 5) ?hd (xs := ([(⟨5, ([] : List Int), ([] : List (S26))⟩ : S26)] : List (S26))) (inner := [.int .i64 5, .slice none 0 0, .slice none 0 0]) (ok := (fun _ => True)) (okp := (fun _ => True)) ?hr ?hp (fun _ hk => hk) ((show ∀ k_, w.heap.size ≤ k_ → (fun _ => True) k_ from fun k_ hk => trivial) _ (Nat.le_refl _)) (Below.refl _ _) (Nat.le_refl _) (by simp) ?_; (case hd => rfl); (case hg => rfl); (case hr => first | (go_simp; done) | (go_simp; rfl)); (case hp => exact (Reps.c3 (show Kd.FK k26 _ _ (⟨5, ([] : List Int), ([] : List (S26))⟩ : S26) [.int .i64 5, .slice none 0 0, .slice none 0 0] from (k26_mkF _ _ (⟨5, ([] : List Int), ([] : List (S26))⟩ : S26) (Nat.le_refl _) (Kd.F_nil _ _ _) (Nat.le_refl _) (Kd.F_nil _ _ _))) (Reps.none _ _))); intro v158 w31 ho32 hb hg_ hnew_; clear hg_ hnew_; (first | rw [← Ny157.out] at ho32 | (simp only [Int.reduceToNat] at ho32; rw [← Ny157.out] at ho32)); have n0_ := Aside0.mk (Kd.N_lower ho32 (below_size (by repeat (first | (with_reducible first | exact HB.out | apply below_alloc | apply pw_below_drewN | apply below_drew1) | exact HB.out)))); have n1_ := Aside0.mk (below_step (by repeat (first | (with_reducible first | exact HB.out | apply below_alloc | apply pw_below_drewN | apply below_drew1) | exact HB.out)) hb); clear HB; have HO159 := n0_; have HB := n1_; clear n0_ n1_; clear hb ho32; obtain ⟨Ao33, co33, eo33⟩ := Kd.N_slice HO159.out; subst eo33) | ((with_reducible refine gate_dst (N := 7) rfl ?_); refine Kd.N_lit k26 _ 26 ?hg (N' := 7) ?hd (xs := ([(⟨48, ([] : List Int), y157⟩ : S26)] : List (S26))) (inner := [.int .i64 48, .slice none 0 0, .slice Ao33 y157.length co33]) (ok := (fun _ => True)) (okp := (fun _ => True)) ?hr ?hp (fun _ hk => hk) ((show ∀ k_, w31.heap.size ≤ k_ → (fun _ => True) k_ from fun k_ hk => trivial) _ (Nat.le_refl _)) (Below.refl _ _) (Nat.le_refl _) (by simp) ?_; (case hd => rfl); (case hg => rfl); (case hr => first | (go_simp; done) | (go_simp; rfl)); (case hp => exact (Reps.c3 (show Kd.FK k26 _ _ (⟨48, ([] : List Int), y157⟩ : S26) [.int .i64 48, .slice none 0 0, .slice Ao33 y157.length co33] from (k26_mkF _ _ (⟨48, ([] : List Int), y157⟩ : S26) (Nat.le_refl _) (Kd.F_nil _ _ _) (Kd.N_reads' (Kd.N_mono (ok' := (fun _ => True)) (HO159.out) (fun k_ hk => trivial))).2.1 (Kd.N_F (Kd.N_mono (ok' := (fun _ => True)) (HO159.out) (fun k_ hk => trivial))))) (Reps.none _ _))); intro v161 w34 ho35 hb hg_ hnew_; clear hg_ hnew_; (first | rw [← Ny160.out] at ho35 | (simp only [Int.reduceToNat] at ho35; rw [← Ny160.out] at ho35)); have n0_ := Aside0.mk (Kd.N_lower ho35 (below_size (by repeat (first | (with_reducible first | exact HB.out | apply below_alloc | apply pw_below_drewN | apply below_drew1) | exact HB.out)))); have n1_ := Aside0.mk (below_step (by repeat (first | (with_reducible first | exact HB.out | apply below_alloc | apply pw_below_drewN | apply below_drew1) | exact HB.out)) hb); clear HB; clear HO159; have HO162 := n0_; have HB := n1_; clear n0_ n1_; clear hb ho35; obtain ⟨Ao36, co36, eo36⟩ := Kd.N_slice HO162.out; subst eo36) | ((with_reducible refine gate_callee (f := 12) rfl ?_); refine goesL_ (some 8) rfl rfl Try.func12 (by kernel_rfl) rfl #[.slice Ao36 y160.length co36] rfl (by (try simp only [List.map_toArray, List.map_cons, List.map_nil]); first | done | rfl | (simp only [List.length_drop, List.length_take]; rfl)) ?_; (with_reducible refine (tlv_Encode.calls k _ _ y160 t163 t164 _ ?side1 ?side2 A1.out).mono ?_); (case side1 => repeat (first | exact (Kd.N_reads' HO162.out).2.2 | (with_reducible refine Kd.C_alloc ?_ _) | (with_reducible refine Kd.C_drewN ?_ _) | (with_reducible refine Kd.C_drew ?_))); (case side2 => exact (Kd.N_reads' HO162.out).2.1); rintro e w37 ⟨v165, rfl, ho0, hb⟩; refine ⟨_, rfl, ?_⟩; have n0_ := Aside0.mk (Kd.N_elder' (by (with_reducible repeat (first | apply Kd.N_alloc | apply Kd.N_drewN | apply Kd.N_drew)); exact HO162.out) (Kd.R_base ho0) hb); have n1_ := Aside0.mk (Kd.R_lower ho0 (below_size (by repeat (first | (with_reducible first | exact HB.out | apply below_alloc | apply pw_below_drewN | apply below_drew1) | exact HB.out)))); have n2_ := Aside0.mk (below_step (by repeat (first | (with_reducible first | exact HB.out | apply below_alloc | apply pw_below_drewN | apply below_drew1) | exact HB.out)) hb); clear HO162; clear HB; have HO162 := n0_; have HO166 := n1_; have HB := n2_; clear n0_ n1_ n2_; (try clear hb); (try clear hb2); (try clear hk); (try clear hi); (try clear ho0)))
  go_ret
  exact ⟨by first | rfl | (simp [errW_none, errW_some] <;> rfl) | (simp [*, errW_none, errW_some] <;> rfl), by repeat (first | (with_reducible first | exact HB.out | apply below_alloc | apply pw_below_drewN | apply below_drew1) | exact HB.out)⟩

/-! ### substationref10_Nested: function 11 -/
def substationref10_Nested.f (a0 : Int) : Option (Bool) := some ((Go.bits .and .i64 a0 32) != 0)
set_option maxHeartbeats 8000000 in
set_option maxRecDepth 100000 in
theorem substationref10_Nested.calls (a0 : Int) (r : Bool) (w : World) (h : substationref10_Nested.f a0 = some r) :
  Calls Try.prog 11 #[.int .i64 a0] w fun e w' => e = .returned (.bool r) ∧ Drawn0 w w' := by
 have H : (some ((Go.bits .and .i64 a0 32) != 0)) = some r := h
 clear h
 obtain rfl := Option.some.inj H
 go_enter Try.func11, Try.ntmps11
 go_wp2
 go_ret
 exact ⟨by first | rfl | (simp; done) | (simp [*]; done), by repeat (first | exact Drawn0.refl _ | apply Drawn0.step)⟩

-- NOT PRINTED: function 3 (substationlaw10_TlvTags)

end Go.Proofs.Ytafbnfpabcaebaa.XT
