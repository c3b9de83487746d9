-- Written by a program of this session, which is the kit's print with hand-given functions (wip/tools/mkprint.py).
import Derived.Test.YtmlgklklikgafaaPPredsTellsx0
import Derived.Test.YtmlgklklikgafaaPPredsTellsx8
namespace Go.Proofs.Ytmlgklklikgafaa.PPredsTells
open Go.RowKit Go.Proofs.YtmlgklklikgafaaW.PrintWords Go.Proofs.YtmlgklklikgafaaW.PrintLast Go.Proofs.YtmlgklklikgafaaW.PrintMore
attribute [local go_sem] max2_int min2_int max_two min_two max_three min_three max_four min_four   -- for this text's walks alone
set_option linter.unusedVariables false
set_option linter.unusedSimpArgs false

/-! ### lictorref02_One: function 35 -/
def lictorref02_One.j0 : Nat → Bool → Bool → Bool → Bool → Int → Int → Int → Int → Int → Int → Int → Option (Bool)
  | 0, _, _, _, _, _, _, _, _, _, _, _ => none
  | k + 1, x4, x5, x6, x30, x246000, x246001, x246002, x246003, x246004, x246005, x246006 => if x30 = true then (some false) else (if x246001 = 0 then (if x246003 = 0 then (if x246004 = 0 then (if x5 = true then (some x6) else (some false)) else (if x246004 = 1 then (if x5 = true then (some x6) else (some false)) else (some false))) else (some false)) else (if x246001 = 1 then (if x4 = true then (if x246004 = 0 then (if x246005 = 0 then (some (x246006 == 0)) else (some false)) else (some false)) else (some false)) else (if x246001 = 2 then (if x4 = true then (if x246004 = 0 then (if x246005 = 0 then (some x6) else (some false)) else (some false)) else (some false)) else (some false))))
def lictorref02_One.f (k : Nat) (a0_0 : Int) (a0_1 : Int) (a0_2 : Int) (a0_3 : Int) (a0_4 : Int) (a0_5 : Int) (a0_6 : Int) : Option (Bool) := (lictorref02_Named.f a0_0).bind fun t246 => ((lictorref02_Named.f a0_3).bind fun t247 => ((lictorref02_in.f a0_5).bind fun t248 => ((lictorref02_in.f a0_6).bind fun t249 => (if t246 = true then (if a0_2 < 0 then (lictorref02_One.j0 k t247 t248 t249 true a0_0 a0_1 a0_2 a0_3 a0_4 a0_5 a0_6) else (lictorref02_One.j0 k t247 t248 t249 (decide (a0_2 > 3)) a0_0 a0_1 a0_2 a0_3 a0_4 a0_5 a0_6)) else (lictorref02_One.j0 k t247 t248 t249 true a0_0 a0_1 a0_2 a0_3 a0_4 a0_5 a0_6)))))
theorem lictorref02_One.mono_l : ∀ k, (∀ y0 y1 y2 y3 y4 y5 y6 y7 y8 y9 y10, LeO (lictorref02_One.j0 k y0 y1 y2 y3 y4 y5 y6 y7 y8 y9 y10) (lictorref02_One.j0 (k + 1) y0 y1 y2 y3 y4 y5 y6 y7 y8 y9 y10))
  | 0 => fun _ _ _ _ _ _ _ _ _ _ _ r h => by simp [lictorref02_One.j0] at h
  | k + 1 => by
    have ih0 := lictorref02_One.mono_l k
    · intro y0 y1 y2 y3 y4 y5 y6 y7 y8 y9 y10
      unfold lictorref02_One.j0
      repeat' first
      | (with_reducible exact ih0 _ _ _ _ _ _ _ _ _ _ _)
      | (with_reducible exact LeO.refl _)
      | (with_reducible exact LeO.none _)
      | (with_reducible refine LeO.ite ?_ ?_)
      | (with_reducible refine LeO.bind ?_ (fun _ => ?_))
      | exact ih0 _ _ _ _ _ _ _ _ _ _ _
      | exact LeO.none _
      | refine LeO.ite ?_ ?_
      | refine LeO.bind ?_ (fun _ => ?_)
theorem lictorref02_One.mono : ∀ a0 a1 a2 a3 a4 a5 a6 k, LeO (lictorref02_One.f k a0 a1 a2 a3 a4 a5 a6) (lictorref02_One.f (k + 1) a0 a1 a2 a3 a4 a5 a6) := by
  intro a0 a1 a2 a3 a4 a5 a6 k
  have ih0 := lictorref02_One.mono_l k
  unfold lictorref02_One.f
  repeat' first
      | (with_reducible exact ih0 _ _ _ _ _ _ _ _ _ _ _)
      | (with_reducible exact LeO.refl _)
      | (with_reducible exact LeO.none _)
      | (with_reducible refine LeO.ite ?_ ?_)
      | (with_reducible refine LeO.bind ?_ (fun _ => ?_))
      | exact ih0 _ _ _ _ _ _ _ _ _ _ _
      | exact LeO.none _
      | refine LeO.ite ?_ ?_
      | refine LeO.bind ?_ (fun _ => ?_)
set_option maxHeartbeats 8000000 in
set_option maxRecDepth 100000 in
theorem lictorref02_One.calls (k : Nat) (a0_0 : Int) (a0_1 : Int) (a0_2 : Int) (a0_3 : Int) (a0_4 : Int) (a0_5 : Int) (a0_6 : Int) (r : Bool) (w : World) (h : lictorref02_One.f k a0_0 a0_1 a0_2 a0_3 a0_4 a0_5 a0_6 = some r) :
    Calls Try.prog 35 #[.agg #[.int .i64 a0_0, .int .i64 a0_1, .int .i64 a0_2, .int .i64 a0_3, .int .i64 a0_4, .int .i64 a0_5, .int .i64 a0_6]] w fun e w' => e = .returned (.bool r) ∧ Below w.heap.size w w' := by
  have hu32 := Try.underlying32
  have HB := Aside0.mk (Below.refl w.heap.size w)
  have H : ((lictorref02_Named.f a0_0).bind fun t246 => ((lictorref02_Named.f a0_3).bind fun t247 => ((lictorref02_in.f a0_5).bind fun t248 => ((lictorref02_in.f a0_6).bind fun t249 => (if t246 = true then (if a0_2 < 0 then (lictorref02_One.j0 k t247 t248 t249 true a0_0 a0_1 a0_2 a0_3 a0_4 a0_5 a0_6) else (lictorref02_One.j0 k t247 t248 t249 (decide (a0_2 > 3)) a0_0 a0_1 a0_2 a0_3 a0_4 a0_5 a0_6)) else (lictorref02_One.j0 k t247 t248 t249 true a0_0 a0_1 a0_2 a0_3 a0_4 a0_5 a0_6)))))) = some r := h
  clear h
  replace H := Option.bind_eq_some_iff.mp H
  obtain ⟨t246, A20, H⟩ := H
  replace H : ((lictorref02_Named.f a0_3).bind fun t247 => ((lictorref02_in.f a0_5).bind fun t248 => ((lictorref02_in.f a0_6).bind fun t249 => (if t246 = true then (if a0_2 < 0 then (lictorref02_One.j0 k t247 t248 t249 true a0_0 a0_1 a0_2 a0_3 a0_4 a0_5 a0_6) else (lictorref02_One.j0 k t247 t248 t249 (decide (a0_2 > 3)) a0_0 a0_1 a0_2 a0_3 a0_4 a0_5 a0_6)) else (lictorref02_One.j0 k t247 t248 t249 true a0_0 a0_1 a0_2 a0_3 a0_4 a0_5 a0_6))))) = some r := H
  have A2 := Aside0.mk A20
  clear A20
  replace H := Option.bind_eq_some_iff.mp H
  obtain ⟨t247, A30, H⟩ := H
  replace H : ((lictorref02_in.f a0_5).bind fun t248 => ((lictorref02_in.f a0_6).bind fun t249 => (if t246 = true then (if a0_2 < 0 then (lictorref02_One.j0 k t247 t248 t249 true a0_0 a0_1 a0_2 a0_3 a0_4 a0_5 a0_6) else (lictorref02_One.j0 k t247 t248 t249 (decide (a0_2 > 3)) a0_0 a0_1 a0_2 a0_3 a0_4 a0_5 a0_6)) else (lictorref02_One.j0 k t247 t248 t249 true a0_0 a0_1 a0_2 a0_3 a0_4 a0_5 a0_6)))) = some r := H
  have A3 := Aside0.mk A30
  clear A30
  replace H := Option.bind_eq_some_iff.mp H
  obtain ⟨t248, A40, H⟩ := H
  replace H : ((lictorref02_in.f a0_6).bind fun t249 => (if t246 = true then (if a0_2 < 0 then (lictorref02_One.j0 k t247 t248 t249 true a0_0 a0_1 a0_2 a0_3 a0_4 a0_5 a0_6) else (lictorref02_One.j0 k t247 t248 t249 (decide (a0_2 > 3)) a0_0 a0_1 a0_2 a0_3 a0_4 a0_5 a0_6)) else (lictorref02_One.j0 k t247 t248 t249 true a0_0 a0_1 a0_2 a0_3 a0_4 a0_5 a0_6))) = some r := H
  have A4 := Aside0.mk A40
  clear A40
  replace H := Option.bind_eq_some_iff.mp H
  obtain ⟨t249, A50, H⟩ := H
  replace H : (if t246 = true then (if a0_2 < 0 then (lictorref02_One.j0 k t247 t248 t249 true a0_0 a0_1 a0_2 a0_3 a0_4 a0_5 a0_6) else (lictorref02_One.j0 k t247 t248 t249 (decide (a0_2 > 3)) a0_0 a0_1 a0_2 a0_3 a0_4 a0_5 a0_6)) else (lictorref02_One.j0 k t247 t248 t249 true a0_0 a0_1 a0_2 a0_3 a0_4 a0_5 a0_6)) = some r := H
  have A5 := Aside0.mk A50
  clear A50
  have HC6 := Aside0.mk H
  clear H
  go_enter Try.func35, Try.ntmps35
  go_upto_region 5 with (first | ((with_reducible refine gate_dst (N := 1) rfl ?_); refine box_event ?hg (N := 1) ?hd (cs := #[.int .i64 a0_0, .int .i64 a0_1, .int .i64 a0_2, .int .i64 a0_3, .int .i64 a0_4, .int .i64 a0_5, .int .i64 a0_6]) (t := 32) ?hr ?_; (case hd => rfl); (case hg => rfl); (case hr => first | (go_simp; done) | (go_simp; rfl)); intro gb245 hg w7 hbox hb; have n0_ := Aside0.mk (below_step (by repeat (first | (with_reducible first | exact HB.out | apply below_alloc | apply pw_below_drewN | apply below_drew1) | exact HB.out)) hb); have n1_ := Aside0.mk (hbox); have n2_ := Aside0.mk ((by rw [hg]; exact (below_size (by repeat (first | (with_reducible first | exact HB.out | apply below_alloc | apply pw_below_drewN | apply below_drew1) | exact HB.out))) : w.heap.size ≤ gb245)); have n3_ := Aside0.mk ((by rw [hg]; exact (below_size (by repeat (first | (with_reducible first | exact HB.out | apply below_alloc | apply pw_below_drewN | apply below_drew1) | exact HB.out))) : w.heap.size ≤ gb245)); clear HB; have HB := n0_; have BK245 := n1_; have GW245 := n2_; have GE245 := n3_; clear n0_ n1_ n2_ n3_; clear hb hbox hg; have hcz8_0 : w7.cell? ⟨gb245, 0, none⟩ = some (.int .i64 a0_0) := (blk_cell BK245.out 0).trans rfl; have hcz8_1 : w7.cell? ⟨gb245, 1, none⟩ = some (.int .i64 a0_1) := (blk_cell BK245.out 1).trans rfl; have hcz8_2 : w7.cell? ⟨gb245, 2, none⟩ = some (.int .i64 a0_2) := (blk_cell BK245.out 2).trans rfl; have hcz8_3 : w7.cell? ⟨gb245, 3, none⟩ = some (.int .i64 a0_3) := (blk_cell BK245.out 3).trans rfl; have hcz8_4 : w7.cell? ⟨gb245, 4, none⟩ = some (.int .i64 a0_4) := (blk_cell BK245.out 4).trans rfl; have hcz8_5 : w7.cell? ⟨gb245, 5, none⟩ = some (.int .i64 a0_5) := (blk_cell BK245.out 5).trans rfl; have hcz8_6 : w7.cell? ⟨gb245, 6, none⟩ = some (.int .i64 a0_6) := (blk_cell BK245.out 6).trans rfl; have hfz8_0 := blk_frozen BK245.out 0; have hfz8_1 := blk_frozen BK245.out 1; have hfz8_2 := blk_frozen BK245.out 2; have hfz8_3 := blk_frozen BK245.out 3; have hfz8_4 := blk_frozen BK245.out 4; have hfz8_5 := blk_frozen BK245.out 5; have hfz8_6 := blk_frozen BK245.out 6) | ((with_reducible refine gate_callee (f := 41) rfl ?_); refine goesL_ (some 9) rfl rfl Try.func41 (by kernel_rfl) rfl #[.int .i64 a0_0] rfl (by (try simp only [List.map_toArray, List.map_cons, List.map_nil]); first | done | rfl | (simp only [List.length_drop, List.length_take]; rfl)) ?_; (with_reducible refine (lictorref02_Named.calls a0_0 t246 _ A2.out).mono ?_); rintro e w' ⟨rfl, ⟨nd, rfl⟩⟩; refine ⟨_, rfl, ?_⟩) | ((with_reducible refine gate_callee (f := 41) rfl ?_); refine goesL_ (some 12) rfl rfl Try.func41 (by kernel_rfl) rfl #[.int .i64 a0_3] rfl (by (try simp only [List.map_toArray, List.map_cons, List.map_nil]); first | done | rfl | (simp only [List.length_drop, List.length_take]; rfl)) ?_; (with_reducible refine (lictorref02_Named.calls a0_3 t247 _ A3.out).mono ?_); rintro e w' ⟨rfl, ⟨nd, rfl⟩⟩; refine ⟨_, rfl, ?_⟩) | ((with_reducible refine gate_callee (f := 42) rfl ?_); refine goesL_ (some 15) rfl rfl Try.func42 (by kernel_rfl) rfl #[.int .i64 a0_5] rfl (by (try simp only [List.map_toArray, List.map_cons, List.map_nil]); first | done | rfl | (simp only [List.length_drop, List.length_take]; rfl)) ?_; (with_reducible refine (lictorref02_in.calls a0_5 t248 _ A4.out).mono ?_); rintro e w' ⟨rfl, ⟨nd, rfl⟩⟩; refine ⟨_, rfl, ?_⟩) | ((with_reducible refine gate_callee (f := 42) rfl ?_); refine goesL_ (some 18) rfl rfl Try.func42 (by kernel_rfl) rfl #[.int .i64 a0_6] rfl (by (try simp only [List.map_toArray, List.map_cons, List.map_nil]); first | done | rfl | (simp only [List.length_drop, List.length_take]; rfl)) ?_; (with_reducible refine (lictorref02_in.calls a0_6 t249 _ A5.out).mono ?_); rintro e w' ⟨rfl, ⟨nd, rfl⟩⟩; refine ⟨_, rfl, ?_⟩))
  (try simp only [Act.put, List.setIfInBounds_toArray, List.set_cons_zero, List.set_cons_succ])
  go_cut [30] (fun v30 wc => ∃ (kq : Nat) (x30_5 : Bool), v30 = .bool x30_5 ∧ Aside0 (lictorref02_One.j0 kq t247 t248 t249 x30_5 a0_0 a0_1 a0_2 a0_3 a0_4 a0_5 a0_6 = some r) ∧ Aside0 (kq ≤ k) ∧ Aside0 (wc.heap[gb245]? = some (.cells #[.int .i64 a0_0, .int .i64 a0_1, .int .i64 a0_2, .int .i64 a0_3, .int .i64 a0_4, .int .i64 a0_5, .int .i64 a0_6] 32 (0, 0))) ∧ Aside0 (Below w.heap.size w wc))
  case first =>
    have H := HC6.out
    clear HC6
    by_cases c9 : t246 = true
    · subst c9
      have H1 : (if a0_2 < 0 then (lictorref02_One.j0 k t247 t248 t249 true a0_0 a0_1 a0_2 a0_3 a0_4 a0_5 a0_6) else (lictorref02_One.j0 k t247 t248 t249 (decide (a0_2 > 3)) a0_0 a0_1 a0_2 a0_3 a0_4 a0_5 a0_6)) = some r := by rw [if_pos rfl] at H; exact H
      clear H
      have H := H1
      clear H1
      by_cases c10 : a0_2 < 0
      · rw [if_pos c10] at H
        have c10b0 : decide (a0_2 < 0) = true := decide_eq_true c10
        clear c10
        (first | rw [c10b0] | (simp only [i64_w, i32_w]; rw [c10b0]) | skip)
        have H' := Aside0.mk H
        clear H
        have hcz11_0 : w7.cell? ⟨gb245, 0, none⟩ = some (.int .i64 a0_0) := (blk_cell BK245.out 0).trans rfl
        have hcz11_1 : w7.cell? ⟨gb245, 1, none⟩ = some (.int .i64 a0_1) := (blk_cell BK245.out 1).trans rfl
        have hcz11_2 : w7.cell? ⟨gb245, 2, none⟩ = some (.int .i64 a0_2) := (blk_cell BK245.out 2).trans rfl
        have hcz11_3 : w7.cell? ⟨gb245, 3, none⟩ = some (.int .i64 a0_3) := (blk_cell BK245.out 3).trans rfl
        have hcz11_4 : w7.cell? ⟨gb245, 4, none⟩ = some (.int .i64 a0_4) := (blk_cell BK245.out 4).trans rfl
        have hcz11_5 : w7.cell? ⟨gb245, 5, none⟩ = some (.int .i64 a0_5) := (blk_cell BK245.out 5).trans rfl
        have hcz11_6 : w7.cell? ⟨gb245, 6, none⟩ = some (.int .i64 a0_6) := (blk_cell BK245.out 6).trans rfl
        have hfz11_0 := blk_frozen BK245.out 0
        have hfz11_1 := blk_frozen BK245.out 1
        have hfz11_2 := blk_frozen BK245.out 2
        have hfz11_3 := blk_frozen BK245.out 3
        have hfz11_4 := blk_frozen BK245.out 4
        have hfz11_5 := blk_frozen BK245.out 5
        have hfz11_6 := blk_frozen BK245.out 6
        go_wp2
        go_meet
        case rel => exact ⟨_, (true), (by first | rfl | (simp; done) | (simp [*]; done)), H', ⟨by first | omega | exact Nat.le_refl _⟩, ⟨by (with_reducible repeat (first | refine blk_drewN ?_ _ | refine blk_drew ?_ | refine blk_alloc ?_ _)); exact BK245.out⟩, ⟨by repeat (first | (with_reducible first | exact HB.out | apply below_alloc | apply pw_below_drewN | apply below_drew1 | refine below_set ?_ GE245.out) | exact HB.out)⟩⟩
      · rw [if_neg c10] at H
        have c10b0 : decide (a0_2 < 0) = false := decide_eq_false c10
        clear c10
        (first | rw [c10b0] | (simp only [i64_w, i32_w]; rw [c10b0]) | skip)
        have H' := Aside0.mk H
        clear H
        have hcz12_0 : w7.cell? ⟨gb245, 0, none⟩ = some (.int .i64 a0_0) := (blk_cell BK245.out 0).trans rfl
        have hcz12_1 : w7.cell? ⟨gb245, 1, none⟩ = some (.int .i64 a0_1) := (blk_cell BK245.out 1).trans rfl
        have hcz12_2 : w7.cell? ⟨gb245, 2, none⟩ = some (.int .i64 a0_2) := (blk_cell BK245.out 2).trans rfl
        have hcz12_3 : w7.cell? ⟨gb245, 3, none⟩ = some (.int .i64 a0_3) := (blk_cell BK245.out 3).trans rfl
        have hcz12_4 : w7.cell? ⟨gb245, 4, none⟩ = some (.int .i64 a0_4) := (blk_cell BK245.out 4).trans rfl
        have hcz12_5 : w7.cell? ⟨gb245, 5, none⟩ = some (.int .i64 a0_5) := (blk_cell BK245.out 5).trans rfl
        have hcz12_6 : w7.cell? ⟨gb245, 6, none⟩ = some (.int .i64 a0_6) := (blk_cell BK245.out 6).trans rfl
        have hfz12_0 := blk_frozen BK245.out 0
        have hfz12_1 := blk_frozen BK245.out 1
        have hfz12_2 := blk_frozen BK245.out 2
        have hfz12_3 := blk_frozen BK245.out 3
        have hfz12_4 := blk_frozen BK245.out 4
        have hfz12_5 := blk_frozen BK245.out 5
        have hfz12_6 := blk_frozen BK245.out 6
        go_wp2
        go_meet
        case rel => exact ⟨_, (decide (a0_2 > 3)), (by first | rfl | (simp; done) | (simp [*]; done)), H', ⟨by first | omega | exact Nat.le_refl _⟩, ⟨by (with_reducible repeat (first | refine blk_drewN ?_ _ | refine blk_drew ?_ | refine blk_alloc ?_ _)); exact BK245.out⟩, ⟨by repeat (first | (with_reducible first | exact HB.out | apply below_alloc | apply pw_below_drewN | apply below_drew1 | refine below_set ?_ GE245.out) | exact HB.out)⟩⟩
    · replace c9 := Bool.eq_false_iff.mpr c9
      subst c9
      have H1 : (lictorref02_One.j0 k t247 t248 t249 true a0_0 a0_1 a0_2 a0_3 a0_4 a0_5 a0_6) = some r := by rw [if_neg (show ¬ (false = true) by decide)] at H; exact H
      clear H
      have H := H1
      clear H1
      have H' := Aside0.mk H
      clear H
      go_wp2
      go_meet
      case rel => exact ⟨_, (true), (by first | rfl | (simp; done) | (simp [*]; done)), H', ⟨by first | omega | exact Nat.le_refl _⟩, ⟨by (with_reducible repeat (first | refine blk_drewN ?_ _ | refine blk_drew ?_ | refine blk_alloc ?_ _)); exact BK245.out⟩, ⟨by repeat (first | (with_reducible first | exact HB.out | apply below_alloc | apply pw_below_drewN | apply below_drew1 | refine below_set ?_ GE245.out) | exact HB.out)⟩⟩
  case rest =>
    clear HC6
    try clear c1
    try clear p2
    try clear c3
    try clear c4
    try clear c9
    try clear c10
    try clear c10b0
    try clear hcz11_0
    try clear hcz11_1
    try clear hcz11_2
    try clear hcz11_3
    try clear hcz11_4
    try clear hcz11_5
    try clear hcz11_6
    try clear hcz12_0
    try clear hcz12_1
    try clear hcz12_2
    try clear hcz12_3
    try clear hcz12_4
    try clear hcz12_5
    try clear hcz12_6
    try clear hcz8_0
    try clear hcz8_1
    try clear hcz8_2
    try clear hcz8_3
    try clear hcz8_4
    try clear hcz8_5
    try clear hcz8_6
    try clear hfz11_0
    try clear hfz11_1
    try clear hfz11_2
    try clear hfz11_3
    try clear hfz11_4
    try clear hfz11_5
    try clear hfz11_6
    try clear hfz12_0
    try clear hfz12_1
    try clear hfz12_2
    try clear hfz12_3
    try clear hfz12_4
    try clear hfz12_5
    try clear hfz12_6
    try clear hfz8_0
    try clear hfz8_1
    try clear hfz8_2
    try clear hfz8_3
    try clear hfz8_4
    try clear hfz8_5
    try clear hfz8_6
    obtain ⟨kq, x30_5, rfl, HA, HJ5, BK245, HB⟩ := hcut
    cases kq with
    | zero => exact absurd HA.out (by simp [lictorref02_One.j0])
    | succ kj5 =>
      have H := HA.out
      clear HA
      simp only [lictorref02_One.j0] at H
      by_cases c13 : x30_5 = true
      · subst c13
        have H1 : (some false) = some r := by rw [if_pos rfl] at H; exact H
        clear H
        have H := H1
        clear H1
        obtain rfl := Option.some.inj H
        go_wp2
        go_ret
        exact ⟨by first | rfl | (simp [errW_none, errW_some] <;> rfl) | (simp [*, errW_none, errW_some] <;> rfl), by repeat (first | (with_reducible first | exact HB.out | apply below_alloc | apply pw_below_drewN | apply below_drew1 | refine below_set ?_ GE245.out) | exact HB.out)⟩
      · replace c13 := Bool.eq_false_iff.mpr c13
        subst c13
        have H1 : (if a0_1 = 0 then (if a0_3 = 0 then (if a0_4 = 0 then (if t248 = true then (some t249) else (some false)) else (if a0_4 = 1 then (if t248 = true then (some t249) else (some false)) else (some false))) else (some false)) else (if a0_1 = 1 then (if t247 = true then (if a0_4 = 0 then (if a0_5 = 0 then (some (a0_6 == 0)) else (some false)) else (some false)) else (some false)) else (if a0_1 = 2 then (if t247 = true then (if a0_4 = 0 then (if a0_5 = 0 then (some t249) else (some false)) else (some false)) else (some false)) else (some false)))) = some r := by rw [if_neg (show ¬ (false = true) by decide)] at H; exact H
        clear H
        have H := H1
        clear H1
        by_cases c14 : a0_1 = 0
        · rw [if_pos c14] at H
          have c14b0 : (a0_1 == 0) = true := beq_iff_eq.mpr c14
          have c14b1 : (a0_1 != 0) = false := bne_eq_false_iff_eq.mpr c14
          clear c14
          by_cases c15 : a0_3 = 0
          · rw [if_pos c15] at H
            have c15b0 : (a0_3 == 0) = true := beq_iff_eq.mpr c15
            have c15b1 : (a0_3 != 0) = false := bne_eq_false_iff_eq.mpr c15
            clear c15
            by_cases c16 : a0_4 = 0
            · rw [if_pos c16] at H
              have c16b0 : (a0_4 == 0) = true := beq_iff_eq.mpr c16
              have c16b1 : (a0_4 != 0) = false := bne_eq_false_iff_eq.mpr c16
              clear c16
              by_cases c17 : t248 = true
              · subst c17
                have H1 : (some t249) = some r := by rw [if_pos rfl] at H; exact H
                clear H
                have H := H1
                clear H1
                obtain rfl := Option.some.inj H
                have hcz18_0 : wc.cell? ⟨gb245, 0, none⟩ = some (.int .i64 a0_0) := (blk_cell BK245.out 0).trans rfl
                have hcz18_1 : wc.cell? ⟨gb245, 1, none⟩ = some (.int .i64 a0_1) := (blk_cell BK245.out 1).trans rfl
                have hcz18_2 : wc.cell? ⟨gb245, 2, none⟩ = some (.int .i64 a0_2) := (blk_cell BK245.out 2).trans rfl
                have hcz18_3 : wc.cell? ⟨gb245, 3, none⟩ = some (.int .i64 a0_3) := (blk_cell BK245.out 3).trans rfl
                have hcz18_4 : wc.cell? ⟨gb245, 4, none⟩ = some (.int .i64 a0_4) := (blk_cell BK245.out 4).trans rfl
                have hcz18_5 : wc.cell? ⟨gb245, 5, none⟩ = some (.int .i64 a0_5) := (blk_cell BK245.out 5).trans rfl
                have hcz18_6 : wc.cell? ⟨gb245, 6, none⟩ = some (.int .i64 a0_6) := (blk_cell BK245.out 6).trans rfl
                have hfz18_0 := blk_frozen BK245.out 0
                have hfz18_1 := blk_frozen BK245.out 1
                have hfz18_2 := blk_frozen BK245.out 2
                have hfz18_3 := blk_frozen BK245.out 3
                have hfz18_4 := blk_frozen BK245.out 4
                have hfz18_5 := blk_frozen BK245.out 5
                have hfz18_6 := blk_frozen BK245.out 6
                go_wp2
                go_ret
                exact ⟨by first | rfl | (simp [errW_none, errW_some] <;> rfl) | (simp [*, errW_none, errW_some] <;> rfl), by repeat (first | (with_reducible first | exact HB.out | apply below_alloc | apply pw_below_drewN | apply below_drew1 | refine below_set ?_ GE245.out) | exact HB.out)⟩
              · replace c17 := Bool.eq_false_iff.mpr c17
                subst c17
                have H1 : (some false) = some r := by rw [if_neg (show ¬ (false = true) by decide)] at H; exact H
                clear H
                have H := H1
                clear H1
                obtain rfl := Option.some.inj H
                have hcz19_0 : wc.cell? ⟨gb245, 0, none⟩ = some (.int .i64 a0_0) := (blk_cell BK245.out 0).trans rfl
                have hcz19_1 : wc.cell? ⟨gb245, 1, none⟩ = some (.int .i64 a0_1) := (blk_cell BK245.out 1).trans rfl
                have hcz19_2 : wc.cell? ⟨gb245, 2, none⟩ = some (.int .i64 a0_2) := (blk_cell BK245.out 2).trans rfl
                have hcz19_3 : wc.cell? ⟨gb245, 3, none⟩ = some (.int .i64 a0_3) := (blk_cell BK245.out 3).trans rfl
                have hcz19_4 : wc.cell? ⟨gb245, 4, none⟩ = some (.int .i64 a0_4) := (blk_cell BK245.out 4).trans rfl
                have hcz19_5 : wc.cell? ⟨gb245, 5, none⟩ = some (.int .i64 a0_5) := (blk_cell BK245.out 5).trans rfl
                have hcz19_6 : wc.cell? ⟨gb245, 6, none⟩ = some (.int .i64 a0_6) := (blk_cell BK245.out 6).trans rfl
                have hfz19_0 := blk_frozen BK245.out 0
                have hfz19_1 := blk_frozen BK245.out 1
                have hfz19_2 := blk_frozen BK245.out 2
                have hfz19_3 := blk_frozen BK245.out 3
                have hfz19_4 := blk_frozen BK245.out 4
                have hfz19_5 := blk_frozen BK245.out 5
                have hfz19_6 := blk_frozen BK245.out 6
                go_wp2
                go_ret
                exact ⟨by first | rfl | (simp [errW_none, errW_some] <;> rfl) | (simp [*, errW_none, errW_some] <;> rfl), by repeat (first | (with_reducible first | exact HB.out | apply below_alloc | apply pw_below_drewN | apply below_drew1 | refine below_set ?_ GE245.out) | exact HB.out)⟩
            · rw [if_neg c16] at H
              have c16b0 : (a0_4 == 0) = false := beq_eq_false_iff_ne.mpr c16
              have c16b1 : (a0_4 != 0) = true := bne_iff_ne.mpr c16
              by_cases c20 : a0_4 = 1
              · rw [if_pos c20] at H
                have c20b0 : (a0_4 == 1) = true := beq_iff_eq.mpr c20
                have c20b1 : (a0_4 != 1) = false := bne_eq_false_iff_eq.mpr c20
                clear c20
                by_cases c21 : t248 = true
                · subst c21
                  have H1 : (some t249) = some r := by rw [if_pos rfl] at H; exact H
                  clear H
                  have H := H1
                  clear H1
                  obtain rfl := Option.some.inj H
                  have hcz22_0 : wc.cell? ⟨gb245, 0, none⟩ = some (.int .i64 a0_0) := (blk_cell BK245.out 0).trans rfl
                  have hcz22_1 : wc.cell? ⟨gb245, 1, none⟩ = some (.int .i64 a0_1) := (blk_cell BK245.out 1).trans rfl
                  have hcz22_2 : wc.cell? ⟨gb245, 2, none⟩ = some (.int .i64 a0_2) := (blk_cell BK245.out 2).trans rfl
                  have hcz22_3 : wc.cell? ⟨gb245, 3, none⟩ = some (.int .i64 a0_3) := (blk_cell BK245.out 3).trans rfl
                  have hcz22_4 : wc.cell? ⟨gb245, 4, none⟩ = some (.int .i64 a0_4) := (blk_cell BK245.out 4).trans rfl
                  have hcz22_5 : wc.cell? ⟨gb245, 5, none⟩ = some (.int .i64 a0_5) := (blk_cell BK245.out 5).trans rfl
                  have hcz22_6 : wc.cell? ⟨gb245, 6, none⟩ = some (.int .i64 a0_6) := (blk_cell BK245.out 6).trans rfl
                  have hfz22_0 := blk_frozen BK245.out 0
                  have hfz22_1 := blk_frozen BK245.out 1
                  have hfz22_2 := blk_frozen BK245.out 2
                  have hfz22_3 := blk_frozen BK245.out 3
                  have hfz22_4 := blk_frozen BK245.out 4
                  have hfz22_5 := blk_frozen BK245.out 5
                  have hfz22_6 := blk_frozen BK245.out 6
                  go_wp2
                  go_ret
                  exact ⟨by first | rfl | (simp [errW_none, errW_some] <;> rfl) | (simp [*, errW_none, errW_some] <;> rfl), by repeat (first | (with_reducible first | exact HB.out | apply below_alloc | apply pw_below_drewN | apply below_drew1 | refine below_set ?_ GE245.out) | exact HB.out)⟩
                · replace c21 := Bool.eq_false_iff.mpr c21
                  subst c21
                  have H1 : (some false) = some r := by rw [if_neg (show ¬ (false = true) by decide)] at H; exact H
                  clear H
                  have H := H1
                  clear H1
                  obtain rfl := Option.some.inj H
                  have hcz23_0 : wc.cell? ⟨gb245, 0, none⟩ = some (.int .i64 a0_0) := (blk_cell BK245.out 0).trans rfl
                  have hcz23_1 : wc.cell? ⟨gb245, 1, none⟩ = some (.int .i64 a0_1) := (blk_cell BK245.out 1).trans rfl
                  have hcz23_2 : wc.cell? ⟨gb245, 2, none⟩ = some (.int .i64 a0_2) := (blk_cell BK245.out 2).trans rfl
                  have hcz23_3 : wc.cell? ⟨gb245, 3, none⟩ = some (.int .i64 a0_3) := (blk_cell BK245.out 3).trans rfl
                  have hcz23_4 : wc.cell? ⟨gb245, 4, none⟩ = some (.int .i64 a0_4) := (blk_cell BK245.out 4).trans rfl
                  have hcz23_5 : wc.cell? ⟨gb245, 5, none⟩ = some (.int .i64 a0_5) := (blk_cell BK245.out 5).trans rfl
                  have hcz23_6 : wc.cell? ⟨gb245, 6, none⟩ = some (.int .i64 a0_6) := (blk_cell BK245.out 6).trans rfl
                  have hfz23_0 := blk_frozen BK245.out 0
                  have hfz23_1 := blk_frozen BK245.out 1
                  have hfz23_2 := blk_frozen BK245.out 2
                  have hfz23_3 := blk_frozen BK245.out 3
                  have hfz23_4 := blk_frozen BK245.out 4
                  have hfz23_5 := blk_frozen BK245.out 5
                  have hfz23_6 := blk_frozen BK245.out 6
                  go_wp2
                  go_ret
                  exact ⟨by first | rfl | (simp [errW_none, errW_some] <;> rfl) | (simp [*, errW_none, errW_some] <;> rfl), by repeat (first | (with_reducible first | exact HB.out | apply below_alloc | apply pw_below_drewN | apply below_drew1 | refine below_set ?_ GE245.out) | exact HB.out)⟩
              · rw [if_neg c20] at H
                have c20b0 : (a0_4 == 1) = false := beq_eq_false_iff_ne.mpr c20
                have c20b1 : (a0_4 != 1) = true := bne_iff_ne.mpr c20
                obtain rfl := Option.some.inj H
                have hcz24_0 : wc.cell? ⟨gb245, 0, none⟩ = some (.int .i64 a0_0) := (blk_cell BK245.out 0).trans rfl
                have hcz24_1 : wc.cell? ⟨gb245, 1, none⟩ = some (.int .i64 a0_1) := (blk_cell BK245.out 1).trans rfl
                have hcz24_2 : wc.cell? ⟨gb245, 2, none⟩ = some (.int .i64 a0_2) := (blk_cell BK245.out 2).trans rfl
                have hcz24_3 : wc.cell? ⟨gb245, 3, none⟩ = some (.int .i64 a0_3) := (blk_cell BK245.out 3).trans rfl
                have hcz24_4 : wc.cell? ⟨gb245, 4, none⟩ = some (.int .i64 a0_4) := (blk_cell BK245.out 4).trans rfl
                have hcz24_5 : wc.cell? ⟨gb245, 5, none⟩ = some (.int .i64 a0_5) := (blk_cell BK245.out 5).trans rfl
                have hcz24_6 : wc.cell? ⟨gb245, 6, none⟩ = some (.int .i64 a0_6) := (blk_cell BK245.out 6).trans rfl
                have hfz24_0 := blk_frozen BK245.out 0
                have hfz24_1 := blk_frozen BK245.out 1
                have hfz24_2 := blk_frozen BK245.out 2
                have hfz24_3 := blk_frozen BK245.out 3
                have hfz24_4 := blk_frozen BK245.out 4
                have hfz24_5 := blk_frozen BK245.out 5
                have hfz24_6 := blk_frozen BK245.out 6
                go_wp2
                go_ret
                exact ⟨by first | rfl | (simp [errW_none, errW_some] <;> rfl) | (simp [*, errW_none, errW_some] <;> rfl), by repeat (first | (with_reducible first | exact HB.out | apply below_alloc | apply pw_below_drewN | apply below_drew1 | refine below_set ?_ GE245.out) | exact HB.out)⟩
          · rw [if_neg c15] at H
            have c15b0 : (a0_3 == 0) = false := beq_eq_false_iff_ne.mpr c15
            have c15b1 : (a0_3 != 0) = true := bne_iff_ne.mpr c15
            obtain rfl := Option.some.inj H
            have hcz25_0 : wc.cell? ⟨gb245, 0, none⟩ = some (.int .i64 a0_0) := (blk_cell BK245.out 0).trans rfl
            have hcz25_1 : wc.cell? ⟨gb245, 1, none⟩ = some (.int .i64 a0_1) := (blk_cell BK245.out 1).trans rfl
            have hcz25_2 : wc.cell? ⟨gb245, 2, none⟩ = some (.int .i64 a0_2) := (blk_cell BK245.out 2).trans rfl
            have hcz25_3 : wc.cell? ⟨gb245, 3, none⟩ = some (.int .i64 a0_3) := (blk_cell BK245.out 3).trans rfl
            have hcz25_4 : wc.cell? ⟨gb245, 4, none⟩ = some (.int .i64 a0_4) := (blk_cell BK245.out 4).trans rfl
            have hcz25_5 : wc.cell? ⟨gb245, 5, none⟩ = some (.int .i64 a0_5) := (blk_cell BK245.out 5).trans rfl
            have hcz25_6 : wc.cell? ⟨gb245, 6, none⟩ = some (.int .i64 a0_6) := (blk_cell BK245.out 6).trans rfl
            have hfz25_0 := blk_frozen BK245.out 0
            have hfz25_1 := blk_frozen BK245.out 1
            have hfz25_2 := blk_frozen BK245.out 2
            have hfz25_3 := blk_frozen BK245.out 3
            have hfz25_4 := blk_frozen BK245.out 4
            have hfz25_5 := blk_frozen BK245.out 5
            have hfz25_6 := blk_frozen BK245.out 6
            go_wp2
            go_ret
            exact ⟨by first | rfl | (simp [errW_none, errW_some] <;> rfl) | (simp [*, errW_none, errW_some] <;> rfl), by repeat (first | (with_reducible first | exact HB.out | apply below_alloc | apply pw_below_drewN | apply below_drew1 | refine below_set ?_ GE245.out) | exact HB.out)⟩
        · rw [if_neg c14] at H
          have c14b0 : (a0_1 == 0) = false := beq_eq_false_iff_ne.mpr c14
          have c14b1 : (a0_1 != 0) = true := bne_iff_ne.mpr c14
          by_cases c26 : a0_1 = 1
          · rw [if_pos c26] at H
            have c26b0 : (a0_1 == 1) = true := beq_iff_eq.mpr c26
            have c26b1 : (a0_1 != 1) = false := bne_eq_false_iff_eq.mpr c26
            clear c26
            by_cases c27 : t247 = true
            · subst c27
              have H1 : (if a0_4 = 0 then (if a0_5 = 0 then (some (a0_6 == 0)) else (some false)) else (some false)) = some r := by rw [if_pos rfl] at H; exact H
              clear H
              have H := H1
              clear H1
              by_cases c28 : a0_4 = 0
              · rw [if_pos c28] at H
                have c28b0 : (a0_4 == 0) = true := beq_iff_eq.mpr c28
                have c28b1 : (a0_4 != 0) = false := bne_eq_false_iff_eq.mpr c28
                clear c28
                by_cases c29 : a0_5 = 0
                · rw [if_pos c29] at H
                  have c29b0 : (a0_5 == 0) = true := beq_iff_eq.mpr c29
                  have c29b1 : (a0_5 != 0) = false := bne_eq_false_iff_eq.mpr c29
                  clear c29
                  obtain rfl := Option.some.inj H
                  have hcz30_0 : wc.cell? ⟨gb245, 0, none⟩ = some (.int .i64 a0_0) := (blk_cell BK245.out 0).trans rfl
                  have hcz30_1 : wc.cell? ⟨gb245, 1, none⟩ = some (.int .i64 a0_1) := (blk_cell BK245.out 1).trans rfl
                  have hcz30_2 : wc.cell? ⟨gb245, 2, none⟩ = some (.int .i64 a0_2) := (blk_cell BK245.out 2).trans rfl
                  have hcz30_3 : wc.cell? ⟨gb245, 3, none⟩ = some (.int .i64 a0_3) := (blk_cell BK245.out 3).trans rfl
                  have hcz30_4 : wc.cell? ⟨gb245, 4, none⟩ = some (.int .i64 a0_4) := (blk_cell BK245.out 4).trans rfl
                  have hcz30_5 : wc.cell? ⟨gb245, 5, none⟩ = some (.int .i64 a0_5) := (blk_cell BK245.out 5).trans rfl
                  have hcz30_6 : wc.cell? ⟨gb245, 6, none⟩ = some (.int .i64 a0_6) := (blk_cell BK245.out 6).trans rfl
                  have hfz30_0 := blk_frozen BK245.out 0
                  have hfz30_1 := blk_frozen BK245.out 1
                  have hfz30_2 := blk_frozen BK245.out 2
                  have hfz30_3 := blk_frozen BK245.out 3
                  have hfz30_4 := blk_frozen BK245.out 4
                  have hfz30_5 := blk_frozen BK245.out 5
                  have hfz30_6 := blk_frozen BK245.out 6
                  go_wp2
                  go_ret
                  exact ⟨by first | rfl | (simp [errW_none, errW_some] <;> rfl) | (simp [*, errW_none, errW_some] <;> rfl), by repeat (first | (with_reducible first | exact HB.out | apply below_alloc | apply pw_below_drewN | apply below_drew1 | refine below_set ?_ GE245.out) | exact HB.out)⟩
                · rw [if_neg c29] at H
                  have c29b0 : (a0_5 == 0) = false := beq_eq_false_iff_ne.mpr c29
                  have c29b1 : (a0_5 != 0) = true := bne_iff_ne.mpr c29
                  obtain rfl := Option.some.inj H
                  have hcz31_0 : wc.cell? ⟨gb245, 0, none⟩ = some (.int .i64 a0_0) := (blk_cell BK245.out 0).trans rfl
                  have hcz31_1 : wc.cell? ⟨gb245, 1, none⟩ = some (.int .i64 a0_1) := (blk_cell BK245.out 1).trans rfl
                  have hcz31_2 : wc.cell? ⟨gb245, 2, none⟩ = some (.int .i64 a0_2) := (blk_cell BK245.out 2).trans rfl
                  have hcz31_3 : wc.cell? ⟨gb245, 3, none⟩ = some (.int .i64 a0_3) := (blk_cell BK245.out 3).trans rfl
                  have hcz31_4 : wc.cell? ⟨gb245, 4, none⟩ = some (.int .i64 a0_4) := (blk_cell BK245.out 4).trans rfl
                  have hcz31_5 : wc.cell? ⟨gb245, 5, none⟩ = some (.int .i64 a0_5) := (blk_cell BK245.out 5).trans rfl
                  have hcz31_6 : wc.cell? ⟨gb245, 6, none⟩ = some (.int .i64 a0_6) := (blk_cell BK245.out 6).trans rfl
                  have hfz31_0 := blk_frozen BK245.out 0
                  have hfz31_1 := blk_frozen BK245.out 1
                  have hfz31_2 := blk_frozen BK245.out 2
                  have hfz31_3 := blk_frozen BK245.out 3
                  have hfz31_4 := blk_frozen BK245.out 4
                  have hfz31_5 := blk_frozen BK245.out 5
                  have hfz31_6 := blk_frozen BK245.out 6
                  go_wp2
                  go_ret
                  exact ⟨by first | rfl | (simp [errW_none, errW_some] <;> rfl) | (simp [*, errW_none, errW_some] <;> rfl), by repeat (first | (with_reducible first | exact HB.out | apply below_alloc | apply pw_below_drewN | apply below_drew1 | refine below_set ?_ GE245.out) | exact HB.out)⟩
              · rw [if_neg c28] at H
                have c28b0 : (a0_4 == 0) = false := beq_eq_false_iff_ne.mpr c28
                have c28b1 : (a0_4 != 0) = true := bne_iff_ne.mpr c28
                obtain rfl := Option.some.inj H
                have hcz32_0 : wc.cell? ⟨gb245, 0, none⟩ = some (.int .i64 a0_0) := (blk_cell BK245.out 0).trans rfl
                have hcz32_1 : wc.cell? ⟨gb245, 1, none⟩ = some (.int .i64 a0_1) := (blk_cell BK245.out 1).trans rfl
                have hcz32_2 : wc.cell? ⟨gb245, 2, none⟩ = some (.int .i64 a0_2) := (blk_cell BK245.out 2).trans rfl
                have hcz32_3 : wc.cell? ⟨gb245, 3, none⟩ = some (.int .i64 a0_3) := (blk_cell BK245.out 3).trans rfl
                have hcz32_4 : wc.cell? ⟨gb245, 4, none⟩ = some (.int .i64 a0_4) := (blk_cell BK245.out 4).trans rfl
                have hcz32_5 : wc.cell? ⟨gb245, 5, none⟩ = some (.int .i64 a0_5) := (blk_cell BK245.out 5).trans rfl
                have hcz32_6 : wc.cell? ⟨gb245, 6, none⟩ = some (.int .i64 a0_6) := (blk_cell BK245.out 6).trans rfl
                have hfz32_0 := blk_frozen BK245.out 0
                have hfz32_1 := blk_frozen BK245.out 1
                have hfz32_2 := blk_frozen BK245.out 2
                have hfz32_3 := blk_frozen BK245.out 3
                have hfz32_4 := blk_frozen BK245.out 4
                have hfz32_5 := blk_frozen BK245.out 5
                have hfz32_6 := blk_frozen BK245.out 6
                go_wp2
                go_ret
                exact ⟨by first | rfl | (simp [errW_none, errW_some] <;> rfl) | (simp [*, errW_none, errW_some] <;> rfl), by repeat (first | (with_reducible first | exact HB.out | apply below_alloc | apply pw_below_drewN | apply below_drew1 | refine below_set ?_ GE245.out) | exact HB.out)⟩
            · replace c27 := Bool.eq_false_iff.mpr c27
              subst c27
              have H1 : (some false) = some r := by rw [if_neg (show ¬ (false = true) by decide)] at H; exact H
              clear H
              have H := H1
              clear H1
              obtain rfl := Option.some.inj H
              have hcz33_0 : wc.cell? ⟨gb245, 0, none⟩ = some (.int .i64 a0_0) := (blk_cell BK245.out 0).trans rfl
              have hcz33_1 : wc.cell? ⟨gb245, 1, none⟩ = some (.int .i64 a0_1) := (blk_cell BK245.out 1).trans rfl
              have hcz33_2 : wc.cell? ⟨gb245, 2, none⟩ = some (.int .i64 a0_2) := (blk_cell BK245.out 2).trans rfl
              have hcz33_3 : wc.cell? ⟨gb245, 3, none⟩ = some (.int .i64 a0_3) := (blk_cell BK245.out 3).trans rfl
              have hcz33_4 : wc.cell? ⟨gb245, 4, none⟩ = some (.int .i64 a0_4) := (blk_cell BK245.out 4).trans rfl
              have hcz33_5 : wc.cell? ⟨gb245, 5, none⟩ = some (.int .i64 a0_5) := (blk_cell BK245.out 5).trans rfl
              have hcz33_6 : wc.cell? ⟨gb245, 6, none⟩ = some (.int .i64 a0_6) := (blk_cell BK245.out 6).trans rfl
              have hfz33_0 := blk_frozen BK245.out 0
              have hfz33_1 := blk_frozen BK245.out 1
              have hfz33_2 := blk_frozen BK245.out 2
              have hfz33_3 := blk_frozen BK245.out 3
              have hfz33_4 := blk_frozen BK245.out 4
              have hfz33_5 := blk_frozen BK245.out 5
              have hfz33_6 := blk_frozen BK245.out 6
              go_wp2
              go_ret
              exact ⟨by first | rfl | (simp [errW_none, errW_some] <;> rfl) | (simp [*, errW_none, errW_some] <;> rfl), by repeat (first | (with_reducible first | exact HB.out | apply below_alloc | apply pw_below_drewN | apply below_drew1 | refine below_set ?_ GE245.out) | exact HB.out)⟩
          · rw [if_neg c26] at H
            have c26b0 : (a0_1 == 1) = false := beq_eq_false_iff_ne.mpr c26
            have c26b1 : (a0_1 != 1) = true := bne_iff_ne.mpr c26
            by_cases c34 : a0_1 = 2
            · rw [if_pos c34] at H
              have c34b0 : (a0_1 == 2) = true := beq_iff_eq.mpr c34
              have c34b1 : (a0_1 != 2) = false := bne_eq_false_iff_eq.mpr c34
              clear c34
              by_cases c35 : t247 = true
              · subst c35
                have H1 : (if a0_4 = 0 then (if a0_5 = 0 then (some t249) else (some false)) else (some false)) = some r := by rw [if_pos rfl] at H; exact H
                clear H
                have H := H1
                clear H1
                by_cases c36 : a0_4 = 0
                · rw [if_pos c36] at H
                  have c36b0 : (a0_4 == 0) = true := beq_iff_eq.mpr c36
                  have c36b1 : (a0_4 != 0) = false := bne_eq_false_iff_eq.mpr c36
                  clear c36
                  by_cases c37 : a0_5 = 0
                  · rw [if_pos c37] at H
                    have c37b0 : (a0_5 == 0) = true := beq_iff_eq.mpr c37
                    have c37b1 : (a0_5 != 0) = false := bne_eq_false_iff_eq.mpr c37
                    clear c37
                    obtain rfl := Option.some.inj H
                    have hcz38_0 : wc.cell? ⟨gb245, 0, none⟩ = some (.int .i64 a0_0) := (blk_cell BK245.out 0).trans rfl
                    have hcz38_1 : wc.cell? ⟨gb245, 1, none⟩ = some (.int .i64 a0_1) := (blk_cell BK245.out 1).trans rfl
                    have hcz38_2 : wc.cell? ⟨gb245, 2, none⟩ = some (.int .i64 a0_2) := (blk_cell BK245.out 2).trans rfl
                    have hcz38_3 : wc.cell? ⟨gb245, 3, none⟩ = some (.int .i64 a0_3) := (blk_cell BK245.out 3).trans rfl
                    have hcz38_4 : wc.cell? ⟨gb245, 4, none⟩ = some (.int .i64 a0_4) := (blk_cell BK245.out 4).trans rfl
                    have hcz38_5 : wc.cell? ⟨gb245, 5, none⟩ = some (.int .i64 a0_5) := (blk_cell BK245.out 5).trans rfl
                    have hcz38_6 : wc.cell? ⟨gb245, 6, none⟩ = some (.int .i64 a0_6) := (blk_cell BK245.out 6).trans rfl
                    have hfz38_0 := blk_frozen BK245.out 0
                    have hfz38_1 := blk_frozen BK245.out 1
                    have hfz38_2 := blk_frozen BK245.out 2
                    have hfz38_3 := blk_frozen BK245.out 3
                    have hfz38_4 := blk_frozen BK245.out 4
                    have hfz38_5 := blk_frozen BK245.out 5
                    have hfz38_6 := blk_frozen BK245.out 6
                    go_wp2
                    go_ret
                    exact ⟨by first | rfl | (simp [errW_none, errW_some] <;> rfl) | (simp [*, errW_none, errW_some] <;> rfl), by repeat (first | (with_reducible first | exact HB.out | apply below_alloc | apply pw_below_drewN | apply below_drew1 | refine below_set ?_ GE245.out) | exact HB.out)⟩
                  · rw [if_neg c37] at H
                    have c37b0 : (a0_5 == 0) = false := beq_eq_false_iff_ne.mpr c37
                    have c37b1 : (a0_5 != 0) = true := bne_iff_ne.mpr c37
                    obtain rfl := Option.some.inj H
                    have hcz39_0 : wc.cell? ⟨gb245, 0, none⟩ = some (.int .i64 a0_0) := (blk_cell BK245.out 0).trans rfl
                    have hcz39_1 : wc.cell? ⟨gb245, 1, none⟩ = some (.int .i64 a0_1) := (blk_cell BK245.out 1).trans rfl
                    have hcz39_2 : wc.cell? ⟨gb245, 2, none⟩ = some (.int .i64 a0_2) := (blk_cell BK245.out 2).trans rfl
                    have hcz39_3 : wc.cell? ⟨gb245, 3, none⟩ = some (.int .i64 a0_3) := (blk_cell BK245.out 3).trans rfl
                    have hcz39_4 : wc.cell? ⟨gb245, 4, none⟩ = some (.int .i64 a0_4) := (blk_cell BK245.out 4).trans rfl
                    have hcz39_5 : wc.cell? ⟨gb245, 5, none⟩ = some (.int .i64 a0_5) := (blk_cell BK245.out 5).trans rfl
                    have hcz39_6 : wc.cell? ⟨gb245, 6, none⟩ = some (.int .i64 a0_6) := (blk_cell BK245.out 6).trans rfl
                    have hfz39_0 := blk_frozen BK245.out 0
                    have hfz39_1 := blk_frozen BK245.out 1
                    have hfz39_2 := blk_frozen BK245.out 2
                    have hfz39_3 := blk_frozen BK245.out 3
                    have hfz39_4 := blk_frozen BK245.out 4
                    have hfz39_5 := blk_frozen BK245.out 5
                    have hfz39_6 := blk_frozen BK245.out 6
                    go_wp2
                    go_ret
                    exact ⟨by first | rfl | (simp [errW_none, errW_some] <;> rfl) | (simp [*, errW_none, errW_some] <;> rfl), by repeat (first | (with_reducible first | exact HB.out | apply below_alloc | apply pw_below_drewN | apply below_drew1 | refine below_set ?_ GE245.out) | exact HB.out)⟩
                · rw [if_neg c36] at H
                  have c36b0 : (a0_4 == 0) = false := beq_eq_false_iff_ne.mpr c36
                  have c36b1 : (a0_4 != 0) = true := bne_iff_ne.mpr c36
                  obtain rfl := Option.some.inj H
                  have hcz40_0 : wc.cell? ⟨gb245, 0, none⟩ = some (.int .i64 a0_0) := (blk_cell BK245.out 0).trans rfl
                  have hcz40_1 : wc.cell? ⟨gb245, 1, none⟩ = some (.int .i64 a0_1) := (blk_cell BK245.out 1).trans rfl
                  have hcz40_2 : wc.cell? ⟨gb245, 2, none⟩ = some (.int .i64 a0_2) := (blk_cell BK245.out 2).trans rfl
                  have hcz40_3 : wc.cell? ⟨gb245, 3, none⟩ = some (.int .i64 a0_3) := (blk_cell BK245.out 3).trans rfl
                  have hcz40_4 : wc.cell? ⟨gb245, 4, none⟩ = some (.int .i64 a0_4) := (blk_cell BK245.out 4).trans rfl
                  have hcz40_5 : wc.cell? ⟨gb245, 5, none⟩ = some (.int .i64 a0_5) := (blk_cell BK245.out 5).trans rfl
                  have hcz40_6 : wc.cell? ⟨gb245, 6, none⟩ = some (.int .i64 a0_6) := (blk_cell BK245.out 6).trans rfl
                  have hfz40_0 := blk_frozen BK245.out 0
                  have hfz40_1 := blk_frozen BK245.out 1
                  have hfz40_2 := blk_frozen BK245.out 2
                  have hfz40_3 := blk_frozen BK245.out 3
                  have hfz40_4 := blk_frozen BK245.out 4
                  have hfz40_5 := blk_frozen BK245.out 5
                  have hfz40_6 := blk_frozen BK245.out 6
                  go_wp2
                  go_ret
                  exact ⟨by first | rfl | (simp [errW_none, errW_some] <;> rfl) | (simp [*, errW_none, errW_some] <;> rfl), by repeat (first | (with_reducible first | exact HB.out | apply below_alloc | apply pw_below_drewN | apply below_drew1 | refine below_set ?_ GE245.out) | exact HB.out)⟩
              · replace c35 := Bool.eq_false_iff.mpr c35
                subst c35
                have H1 : (some false) = some r := by rw [if_neg (show ¬ (false = true) by decide)] at H; exact H
                clear H
                have H := H1
                clear H1
                obtain rfl := Option.some.inj H
                have hcz41_0 : wc.cell? ⟨gb245, 0, none⟩ = some (.int .i64 a0_0) := (blk_cell BK245.out 0).trans rfl
                have hcz41_1 : wc.cell? ⟨gb245, 1, none⟩ = some (.int .i64 a0_1) := (blk_cell BK245.out 1).trans rfl
                have hcz41_2 : wc.cell? ⟨gb245, 2, none⟩ = some (.int .i64 a0_2) := (blk_cell BK245.out 2).trans rfl
                have hcz41_3 : wc.cell? ⟨gb245, 3, none⟩ = some (.int .i64 a0_3) := (blk_cell BK245.out 3).trans rfl
                have hcz41_4 : wc.cell? ⟨gb245, 4, none⟩ = some (.int .i64 a0_4) := (blk_cell BK245.out 4).trans rfl
                have hcz41_5 : wc.cell? ⟨gb245, 5, none⟩ = some (.int .i64 a0_5) := (blk_cell BK245.out 5).trans rfl
                have hcz41_6 : wc.cell? ⟨gb245, 6, none⟩ = some (.int .i64 a0_6) := (blk_cell BK245.out 6).trans rfl
                have hfz41_0 := blk_frozen BK245.out 0
                have hfz41_1 := blk_frozen BK245.out 1
                have hfz41_2 := blk_frozen BK245.out 2
                have hfz41_3 := blk_frozen BK245.out 3
                have hfz41_4 := blk_frozen BK245.out 4
                have hfz41_5 := blk_frozen BK245.out 5
                have hfz41_6 := blk_frozen BK245.out 6
                go_wp2
                go_ret
                exact ⟨by first | rfl | (simp [errW_none, errW_some] <;> rfl) | (simp [*, errW_none, errW_some] <;> rfl), by repeat (first | (with_reducible first | exact HB.out | apply below_alloc | apply pw_below_drewN | apply below_drew1 | refine below_set ?_ GE245.out) | exact HB.out)⟩
            · rw [if_neg c34] at H
              have c34b0 : (a0_1 == 2) = false := beq_eq_false_iff_ne.mpr c34
              have c34b1 : (a0_1 != 2) = true := bne_iff_ne.mpr c34
              obtain rfl := Option.some.inj H
              have hcz42_0 : wc.cell? ⟨gb245, 0, none⟩ = some (.int .i64 a0_0) := (blk_cell BK245.out 0).trans rfl
              have hcz42_1 : wc.cell? ⟨gb245, 1, none⟩ = some (.int .i64 a0_1) := (blk_cell BK245.out 1).trans rfl
              have hcz42_2 : wc.cell? ⟨gb245, 2, none⟩ = some (.int .i64 a0_2) := (blk_cell BK245.out 2).trans rfl
              have hcz42_3 : wc.cell? ⟨gb245, 3, none⟩ = some (.int .i64 a0_3) := (blk_cell BK245.out 3).trans rfl
              have hcz42_4 : wc.cell? ⟨gb245, 4, none⟩ = some (.int .i64 a0_4) := (blk_cell BK245.out 4).trans rfl
              have hcz42_5 : wc.cell? ⟨gb245, 5, none⟩ = some (.int .i64 a0_5) := (blk_cell BK245.out 5).trans rfl
              have hcz42_6 : wc.cell? ⟨gb245, 6, none⟩ = some (.int .i64 a0_6) := (blk_cell BK245.out 6).trans rfl
              have hfz42_0 := blk_frozen BK245.out 0
              have hfz42_1 := blk_frozen BK245.out 1
              have hfz42_2 := blk_frozen BK245.out 2
              have hfz42_3 := blk_frozen BK245.out 3
              have hfz42_4 := blk_frozen BK245.out 4
              have hfz42_5 := blk_frozen BK245.out 5
              have hfz42_6 := blk_frozen BK245.out 6
              go_wp2
              go_ret
              exact ⟨by first | rfl | (simp [errW_none, errW_some] <;> rfl) | (simp [*, errW_none, errW_some] <;> rfl), by repeat (first | (with_reducible first | exact HB.out | apply below_alloc | apply pw_below_drewN | apply below_drew1 | refine below_set ?_ GE245.out) | exact HB.out)⟩

/-! ### lictorref02_Right: function 28 -/
def lictorref02_Right.l0 : Nat → List (S32) → Int → Option (Bool)
  | 0, _, _ => none
  | k + 1, x0, x3 => if x3 < (x0.length : Int) then (if 0 ≤ x3 then ((lictorref02_One.f k ((rd_T32 x0 x3).f0) ((rd_T32 x0 x3).f1) ((rd_T32 x0 x3).f2) ((rd_T32 x0 x3).f3) ((rd_T32 x0 x3).f4) ((rd_T32 x0 x3).f5) ((rd_T32 x0 x3).f6)).bind fun t251 => (if t251 = true then (lictorref02_Right.l0 k x0 (wrap64 (x3 + 1))) else (some false))) else (none)) else (some true)
def lictorref02_Right.f (k : Nat) (l0 : List (S32)) : Option (Bool) := lictorref02_Right.l0 k l0 0
theorem lictorref02_Right.mono_l : ∀ k, (∀ y0 y1, LeO (lictorref02_Right.l0 k y0 y1) (lictorref02_Right.l0 (k + 1) y0 y1))
  | 0 => fun _ _ r h => by simp [lictorref02_Right.l0] at h
  | k + 1 => by
    have ih0 := lictorref02_Right.mono_l k
    · intro y0 y1
      unfold lictorref02_Right.l0
      repeat' first
      | (with_reducible exact ih0 _ _)
      | (with_reducible exact lictorref02_One.mono _ _ _ _ _ _ _ _)
      | (with_reducible exact LeO.refl _)
      | (with_reducible exact LeO.none _)
      | (with_reducible refine LeO.ite ?_ ?_)
      | (with_reducible refine LeO.bind ?_ (fun _ => ?_))
      | exact ih0 _ _
      | exact lictorref02_One.mono _ _ _ _ _ _ _ _
      | exact LeO.none _
      | refine LeO.ite ?_ ?_
      | refine LeO.bind ?_ (fun _ => ?_)
theorem lictorref02_Right.mono : ∀ a0 k, LeO (lictorref02_Right.f k a0) (lictorref02_Right.f (k + 1) a0) := by
  intro a0 k
  have ih0 := lictorref02_Right.mono_l k
  unfold lictorref02_Right.f
  repeat' first
      | (with_reducible exact ih0 _ _)
      | (with_reducible exact lictorref02_One.mono _ _ _ _ _ _ _ _)
      | (with_reducible exact LeO.refl _)
      | (with_reducible exact LeO.none _)
      | (with_reducible refine LeO.ite ?_ ?_)
      | (with_reducible refine LeO.bind ?_ (fun _ => ?_))
      | exact ih0 _ _
      | exact lictorref02_One.mono _ _ _ _ _ _ _ _
      | exact LeO.none _
      | refine LeO.ite ?_ ?_
      | refine LeO.bind ?_ (fun _ => ?_)
set_option maxHeartbeats 8000000 in
set_option maxRecDepth 100000 in
theorem lictorref02_Right.calls (k : Nat) (A0 : Option Addr) (c0 : Nat) (l0 : List (S32)) (r : Bool) (w : World) (hr0 : Kd.C k32 w A0 l0.length l0) (hc0 : l0.length ≤ c0) (h : lictorref02_Right.f k l0 = some r) :
    Calls Try.prog 28 #[.slice A0 l0.length c0] w fun e w' => e = .returned (.bool r) ∧ Below w.heap.size w w' := by
  have hu32 := Try.underlying32
  have HR0 := Aside0.mk hr0
  have HC0 := Aside0.mk hc0
  clear hr0 hc0
  have HB := Aside0.mk (Below.refl w.heap.size w)
  have H : (lictorref02_Right.l0 k l0 0) = some r := h
  clear h
  have H' := Aside0.mk H
  clear H
  go_enter Try.func28, Try.ntmps28
  go_wp2
  go_loopg [3] k (fun kq v3 w' => ∃ (x3_1 : Int), v3 = .int .i64 x3_1 ∧ Aside0 (lictorref02_Right.l0 kq l0 x3_1 = some r) ∧ Aside0 (kq ≤ k) ∧ Aside0 (Below w.heap.size w w'))
  case atStart => exact ⟨(0), (by first | rfl | (simp; done) | (simp [*]; done)), H', ⟨Nat.le_refl _⟩, ⟨by repeat (first | (with_reducible first | exact HB.out | apply below_alloc | apply pw_below_drewN | apply below_drew1) | exact HB.out)⟩⟩
  case round =>
    clear H'
    obtain ⟨x3_1, rfl, HA, HK1, HB⟩ := hrel
    cases gk with
    | zero => exact absurd HA.out (by simp [lictorref02_Right.l0])
    | succ k1 =>
      have H := HA.out
      clear HA
      simp only [lictorref02_Right.l0] at H
      by_cases c2 : x3_1 < (l0.length : Int)
      · rw [if_pos c2] at H
        have c2b0 : decide (x3_1 < (l0.length : Int)) = true := decide_eq_true c2
        clear c2
        by_cases c3 : 0 ≤ x3_1
        · rw [if_pos c3] at H
          have c3b0 : decide (0 ≤ x3_1) = true := decide_eq_true c3
          clear c3
          replace H := Option.bind_eq_some_iff.mp H
          obtain ⟨t251, A40, H⟩ := H
          replace H : (if t251 = true then (lictorref02_Right.l0 k1 l0 (wrap64 (x3_1 + 1))) else (some false)) = some r := H
          have A4 := Aside0.mk A40
          clear A40
          by_cases c5 : t251 = true
          · subst c5
            have H1 : (lictorref02_Right.l0 k1 l0 (wrap64 (x3_1 + 1))) = some r := by rw [if_pos rfl] at H; exact H
            clear H
            have H := H1
            clear H1
            have H' := Aside0.mk H
            clear H
            have p250 : 0 ≤ (x3_1 : Int) := of_decide_eq_true (by first | (with_reducible assumption) | assumption)
            have q250 : x3_1 < (l0.length : Int) := of_decide_eq_true (by first | (with_reducible assumption) | assumption)
            obtain ⟨ad250, e250, hx250_0, hx250_1, hx250_2, hx250_3, hx250_4, hx250_5, hx250_6⟩ := at_T32 HR0.out x3_1 p250 q250
            cases e250
            replace hx250_0 := (HB.out.cell (World.block_lt_of_cell? w _ hx250_0)).trans hx250_0
            replace hx250_1 := (HB.out.cell (World.block_lt_of_cell? w _ hx250_1)).trans hx250_1
            replace hx250_2 := (HB.out.cell (World.block_lt_of_cell? w _ hx250_2)).trans hx250_2
            replace hx250_3 := (HB.out.cell (World.block_lt_of_cell? w _ hx250_3)).trans hx250_3
            replace hx250_4 := (HB.out.cell (World.block_lt_of_cell? w _ hx250_4)).trans hx250_4
            replace hx250_5 := (HB.out.cell (World.block_lt_of_cell? w _ hx250_5)).trans hx250_5
            replace hx250_6 := (HB.out.cell (World.block_lt_of_cell? w _ hx250_6)).trans hx250_6
            replace p250 := eq_true p250
            replace q250 := eq_true q250
            go_wp2_with (first | ((with_reducible refine gate_callee (f := 35) rfl ?_); refine goesL_ (some 15) rfl rfl Try.func35 (by kernel_rfl) rfl #[.agg #[.int .i64 ((rd_T32 l0 x3_1).f0), .int .i64 ((rd_T32 l0 x3_1).f1), .int .i64 ((rd_T32 l0 x3_1).f2), .int .i64 ((rd_T32 l0 x3_1).f3), .int .i64 ((rd_T32 l0 x3_1).f4), .int .i64 ((rd_T32 l0 x3_1).f5), .int .i64 ((rd_T32 l0 x3_1).f6)]] rfl (by (try simp only [List.map_toArray, List.map_cons, List.map_nil]); first | done | rfl | (simp only [List.length_drop, List.length_take]; rfl)) ?_; (with_reducible refine (lictorref02_One.calls k1 ((rd_T32 l0 x3_1).f0) ((rd_T32 l0 x3_1).f1) ((rd_T32 l0 x3_1).f2) ((rd_T32 l0 x3_1).f3) ((rd_T32 l0 x3_1).f4) ((rd_T32 l0 x3_1).f5) ((rd_T32 l0 x3_1).f6) true _ A4.out).mono ?_); rintro e w6 ⟨rfl, hb⟩; refine ⟨_, rfl, ?_⟩; have n0_ := Aside0.mk (below_step (by repeat (first | (with_reducible first | exact HB.out | apply below_alloc | apply pw_below_drewN | apply below_drew1) | exact HB.out)) hb); clear HB; have HB := n0_; clear n0_; (try clear hb); (try clear hb2); (try clear hk); (try clear hi)))
            go_roundg k1
            case measure => have := HK1.out; omega
            case rel => exact ⟨(wrap64 (x3_1 + 1)), (by first | rfl | (simp; done) | (simp [*]; done)), H', ⟨by have := HK1.out; omega⟩, ⟨by repeat (first | (with_reducible first | exact HB.out | apply below_alloc | apply pw_below_drewN | apply below_drew1) | exact HB.out)⟩⟩
          · replace c5 := Bool.eq_false_iff.mpr c5
            subst c5
            have H1 : (some false) = some r := by rw [if_neg (show ¬ (false = true) by decide)] at H; exact H
            clear H
            have H := H1
            clear H1
            obtain rfl := Option.some.inj H
            have p250 : 0 ≤ (x3_1 : Int) := of_decide_eq_true (by first | (with_reducible assumption) | assumption)
            have q250 : x3_1 < (l0.length : Int) := of_decide_eq_true (by first | (with_reducible assumption) | assumption)
            obtain ⟨ad250, e250, hx250_0, hx250_1, hx250_2, hx250_3, hx250_4, hx250_5, hx250_6⟩ := at_T32 HR0.out x3_1 p250 q250
            cases e250
            replace hx250_0 := (HB.out.cell (World.block_lt_of_cell? w _ hx250_0)).trans hx250_0
            replace hx250_1 := (HB.out.cell (World.block_lt_of_cell? w _ hx250_1)).trans hx250_1
            replace hx250_2 := (HB.out.cell (World.block_lt_of_cell? w _ hx250_2)).trans hx250_2
            replace hx250_3 := (HB.out.cell (World.block_lt_of_cell? w _ hx250_3)).trans hx250_3
            replace hx250_4 := (HB.out.cell (World.block_lt_of_cell? w _ hx250_4)).trans hx250_4
            replace hx250_5 := (HB.out.cell (World.block_lt_of_cell? w _ hx250_5)).trans hx250_5
            replace hx250_6 := (HB.out.cell (World.block_lt_of_cell? w _ hx250_6)).trans hx250_6
            replace p250 := eq_true p250
            replace q250 := eq_true q250
            go_wp2_with (first | ((with_reducible refine gate_callee (f := 35) rfl ?_); refine goesL_ (some 15) rfl rfl Try.func35 (by kernel_rfl) rfl #[.agg #[.int .i64 ((rd_T32 l0 x3_1).f0), .int .i64 ((rd_T32 l0 x3_1).f1), .int .i64 ((rd_T32 l0 x3_1).f2), .int .i64 ((rd_T32 l0 x3_1).f3), .int .i64 ((rd_T32 l0 x3_1).f4), .int .i64 ((rd_T32 l0 x3_1).f5), .int .i64 ((rd_T32 l0 x3_1).f6)]] rfl (by (try simp only [List.map_toArray, List.map_cons, List.map_nil]); first | done | rfl | (simp only [List.length_drop, List.length_take]; rfl)) ?_; (with_reducible refine (lictorref02_One.calls k1 ((rd_T32 l0 x3_1).f0) ((rd_T32 l0 x3_1).f1) ((rd_T32 l0 x3_1).f2) ((rd_T32 l0 x3_1).f3) ((rd_T32 l0 x3_1).f4) ((rd_T32 l0 x3_1).f5) ((rd_T32 l0 x3_1).f6) false _ A4.out).mono ?_); rintro e w7 ⟨rfl, hb⟩; refine ⟨_, rfl, ?_⟩; have n0_ := Aside0.mk (below_step (by repeat (first | (with_reducible first | exact HB.out | apply below_alloc | apply pw_below_drewN | apply below_drew1) | exact HB.out)) hb); clear HB; have HB := n0_; clear n0_; (try clear hb); (try clear hb2); (try clear hk); (try clear hi)))
            go_ret
            exact ⟨by first | rfl | (simp [errW_none, errW_some] <;> rfl) | (simp [*, errW_none, errW_some] <;> rfl), by repeat (first | (with_reducible first | exact HB.out | apply below_alloc | apply pw_below_drewN | apply below_drew1) | exact HB.out)⟩
        · rw [if_neg c3] at H
          exact absurd H (by simp)
      · rw [if_neg c2] at H
        have c2b0 : decide (x3_1 < (l0.length : Int)) = false := decide_eq_false c2
        clear c2
        obtain rfl := Option.some.inj H
        go_wp2
        go_ret
        exact ⟨by first | rfl | (simp [errW_none, errW_some] <;> rfl) | (simp [*, errW_none, errW_some] <;> rfl), by repeat (first | (with_reducible first | exact HB.out | apply below_alloc | apply pw_below_drewN | apply below_drew1) | exact HB.out)⟩

end Go.Proofs.Ytmlgklklikgafaa.PPredsTells
