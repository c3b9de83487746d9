-- Written by a program of this session, which is the kit's print with hand-given functions (wip/tools/mkprint.py).
import Derived.Test.YtmlgklklikgafaaPPredsTellsx0
import Derived.Test.YtmlgklklikgafaaPPredsTellsx2
namespace Go.Proofs.Ytmlgklklikgafaa.PPredsTells
open Go.RowKit Go.Proofs.YtmlgklklikgafaaW.PrintWords Go.Proofs.YtmlgklklikgafaaW.PrintLast Go.Proofs.YtmlgklklikgafaaW.PrintMore
attribute [local go_sem] max2_int min2_int max_two min_two max_three min_three max_four min_four   -- for this text's walks alone
set_option linter.unusedVariables false
set_option linter.unusedSimpArgs false

/-! ### preds_Right: function 10 -/
def preds_Right.l0 : Nat → List (S32) → Int → Option (Bool)
  | 0, _, _ => none
  | k + 1, x0, x3 => if x3 < (x0.length : Int) then (if 0 ≤ (wrap64 (x3 - 1)) then (if (wrap64 (x3 - 1)) < (x0.length : Int) then (if 0 ≤ x3 then (if ((rd_T32 x0 (wrap64 (x3 - 1))).f0) ≥ ((rd_T32 x0 x3).f0) then (some false) else (preds_Right.l0 k x0 (wrap64 (x3 + 1)))) else (none)) else (none)) else (none)) else (if (x0.length : Int) ≤ 1024 then ((preds_cmdRight.f x0).bind fun t145 => (some t145)) else (some false))
def preds_Right.f (k : Nat) (l0 : List (S32)) : Option (Bool) := preds_Right.l0 k l0 1
theorem preds_Right.mono_l : ∀ k, (∀ y0 y1, LeO (preds_Right.l0 k y0 y1) (preds_Right.l0 (k + 1) y0 y1))
  | 0 => fun _ _ r h => by simp [preds_Right.l0] at h
  | k + 1 => by
    have ih0 := preds_Right.mono_l k
    · intro y0 y1
      unfold preds_Right.l0
      repeat' first
      | (with_reducible exact ih0 _ _)
      | (with_reducible exact LeO.refl _)
      | (with_reducible exact LeO.none _)
      | (with_reducible refine LeO.ite ?_ ?_)
      | (with_reducible refine LeO.bind ?_ (fun _ => ?_))
      | exact ih0 _ _
      | exact LeO.none _
      | refine LeO.ite ?_ ?_
      | refine LeO.bind ?_ (fun _ => ?_)
theorem preds_Right.mono : ∀ a0 k, LeO (preds_Right.f k a0) (preds_Right.f (k + 1) a0) := by
  intro a0 k
  have ih0 := preds_Right.mono_l k
  unfold preds_Right.f
  repeat' first
      | (with_reducible exact ih0 _ _)
      | (with_reducible exact LeO.refl _)
      | (with_reducible exact LeO.none _)
      | (with_reducible refine LeO.ite ?_ ?_)
      | (with_reducible refine LeO.bind ?_ (fun _ => ?_))
      | exact ih0 _ _
      | exact LeO.none _
      | refine LeO.ite ?_ ?_
      | refine LeO.bind ?_ (fun _ => ?_)
set_option maxHeartbeats 8000000 in
set_option maxRecDepth 100000 in
theorem preds_Right.calls (k : Nat) (A0 : Option Addr) (c0 : Nat) (l0 : List (S32)) (r : Bool) (w : World) (hr0 : Kd.C k32 w A0 l0.length l0) (hc0 : l0.length ≤ c0) (h : preds_Right.f k l0 = some r) :
    Calls Try.prog 10 #[.slice A0 l0.length c0] w fun e w' => e = .returned (.bool r) ∧ Below w.heap.size w w' := by
  have HR0 := Aside0.mk hr0
  have HC0 := Aside0.mk hc0
  clear hr0 hc0
  have HB := Aside0.mk (Below.refl w.heap.size w)
  have H : (preds_Right.l0 k l0 1) = some r := h
  clear h
  have H' := Aside0.mk H
  clear H
  go_enter Try.func10, Try.ntmps10
  go_wp2
  repeat (go_quiet (fail); try go_wp2)
  go_loopg [3] k (fun kq v3 w' => ∃ (x3_1 : Int), v3 = .int .i64 x3_1 ∧ Aside0 (preds_Right.l0 kq l0 x3_1 = some r) ∧ Aside0 (kq ≤ k) ∧ Aside0 (Below w.heap.size w w'))
  case atStart => exact ⟨(1), (by first | rfl | (simp; done) | (simp [*]; done)), H', ⟨Nat.le_refl _⟩, ⟨by repeat (first | (with_reducible first | exact HB.out | apply below_alloc | apply pw_below_drewN | apply below_drew1) | exact HB.out)⟩⟩
  case round =>
    clear H'
    try clear c1
    obtain ⟨x3_1, rfl, HA, HK1, HB⟩ := hrel
    cases gk with
    | zero => exact absurd HA.out (by simp [preds_Right.l0])
    | succ k1 =>
      have H := HA.out
      clear HA
      simp only [preds_Right.l0] at H
      by_cases c2 : x3_1 < (l0.length : Int)
      · rw [if_pos c2] at H
        have c2b0 : decide (x3_1 < (l0.length : Int)) = true := decide_eq_true c2
        clear c2
        obtain ⟨ji3, hji3⟩ : ∃ j_ : Int, (wrap64 (x3_1 - 1)) = j_ := ⟨_, rfl⟩
        replace H : (if 0 ≤ (ji3) then (if (ji3) < (l0.length : Int) then (if 0 ≤ x3_1 then (if ((rd_T32 l0 (ji3)).f0) ≥ ((rd_T32 l0 x3_1).f0) then (some false) else (preds_Right.l0 k1 l0 (wrap64 (x3_1 + 1)))) else (none)) else (none)) else (none)) = some r := by first | (rw [hji3] at H; exact H) | (simp only [hji3] at H ⊢; exact H)
        have hji3w : (IntKind.i64.wrap (x3_1 - 1)) = ji3 := (i64_w _).trans hji3
        by_cases c4 : 0 ≤ (ji3)
        · rw [if_pos c4] at H
          have c4b0 : decide (0 ≤ (ji3)) = true := decide_eq_true c4
          clear c4
          by_cases c5 : (ji3) < (l0.length : Int)
          · rw [if_pos c5] at H
            have c5b0 : decide ((ji3) < (l0.length : Int)) = true := decide_eq_true c5
            clear c5
            by_cases c6 : 0 ≤ x3_1
            · rw [if_pos c6] at H
              have c6b0 : decide (0 ≤ x3_1) = true := decide_eq_true c6
              clear c6
              by_cases c7 : ((rd_T32 l0 (ji3)).f0) ≥ ((rd_T32 l0 x3_1).f0)
              · rw [if_pos c7] at H
                have c7b0 : decide (((rd_T32 l0 x3_1).f0) ≤ ((rd_T32 l0 (ji3)).f0)) = true := decide_eq_true c7
                clear c7
                obtain rfl := Option.some.inj H
                have p143 : 0 ≤ ((ji3) : Int) := of_decide_eq_true (by first | (with_reducible assumption) | assumption)
                have q143 : (ji3) < (l0.length : Int) := of_decide_eq_true (by first | (with_reducible assumption) | assumption)
                obtain ⟨ad143, e143, hx143_0, hx143_1, hx143_2, hx143_3, hx143_4, hx143_5, hx143_6⟩ := at_T32 HR0.out (ji3) p143 q143
                cases e143
                replace hx143_0 := (HB.out.cell (World.block_lt_of_cell? w _ hx143_0)).trans hx143_0
                replace hx143_1 := (HB.out.cell (World.block_lt_of_cell? w _ hx143_1)).trans hx143_1
                replace hx143_2 := (HB.out.cell (World.block_lt_of_cell? w _ hx143_2)).trans hx143_2
                replace hx143_3 := (HB.out.cell (World.block_lt_of_cell? w _ hx143_3)).trans hx143_3
                replace hx143_4 := (HB.out.cell (World.block_lt_of_cell? w _ hx143_4)).trans hx143_4
                replace hx143_5 := (HB.out.cell (World.block_lt_of_cell? w _ hx143_5)).trans hx143_5
                replace hx143_6 := (HB.out.cell (World.block_lt_of_cell? w _ hx143_6)).trans hx143_6
                replace p143 := eq_true p143
                replace q143 := eq_true q143
                have p144 : 0 ≤ (x3_1 : Int) := of_decide_eq_true (by first | (with_reducible assumption) | assumption)
                have q144 : x3_1 < (l0.length : Int) := of_decide_eq_true (by first | (with_reducible assumption) | assumption)
                obtain ⟨ad144, e144, hx144_0, hx144_1, hx144_2, hx144_3, hx144_4, hx144_5, hx144_6⟩ := at_T32 HR0.out x3_1 p144 q144
                obtain rfl : ad143 = ad144 := (by injection e144)
                replace hx144_0 := (HB.out.cell (World.block_lt_of_cell? w _ hx144_0)).trans hx144_0
                replace hx144_1 := (HB.out.cell (World.block_lt_of_cell? w _ hx144_1)).trans hx144_1
                replace hx144_2 := (HB.out.cell (World.block_lt_of_cell? w _ hx144_2)).trans hx144_2
                replace hx144_3 := (HB.out.cell (World.block_lt_of_cell? w _ hx144_3)).trans hx144_3
                replace hx144_4 := (HB.out.cell (World.block_lt_of_cell? w _ hx144_4)).trans hx144_4
                replace hx144_5 := (HB.out.cell (World.block_lt_of_cell? w _ hx144_5)).trans hx144_5
                replace hx144_6 := (HB.out.cell (World.block_lt_of_cell? w _ hx144_6)).trans hx144_6
                replace p144 := eq_true p144
                replace q144 := eq_true q144
                go_wp2
                repeat (go_quiet (fail); try go_wp2)
                go_ret
                exact ⟨by first | rfl | (simp [errW_none, errW_some] <;> rfl) | (simp only [← hji3]; first | rfl | (simp [errW_none, errW_some] <;> rfl)) | (simp [*, errW_none, errW_some] <;> rfl), by repeat (first | (with_reducible first | exact HB.out | apply below_alloc | apply pw_below_drewN | apply below_drew1) | exact HB.out)⟩
              · rw [if_neg c7] at H
                have c7b0 : decide (((rd_T32 l0 x3_1).f0) ≤ ((rd_T32 l0 (ji3)).f0)) = false := decide_eq_false c7
                clear c7
                have H' := Aside0.mk H
                clear H
                have p143 : 0 ≤ ((ji3) : Int) := of_decide_eq_true (by first | (with_reducible assumption) | assumption)
                have q143 : (ji3) < (l0.length : Int) := of_decide_eq_true (by first | (with_reducible assumption) | assumption)
                obtain ⟨ad143, e143, hx143_0, hx143_1, hx143_2, hx143_3, hx143_4, hx143_5, hx143_6⟩ := at_T32 HR0.out (ji3) p143 q143
                cases e143
                replace hx143_0 := (HB.out.cell (World.block_lt_of_cell? w _ hx143_0)).trans hx143_0
                replace hx143_1 := (HB.out.cell (World.block_lt_of_cell? w _ hx143_1)).trans hx143_1
                replace hx143_2 := (HB.out.cell (World.block_lt_of_cell? w _ hx143_2)).trans hx143_2
                replace hx143_3 := (HB.out.cell (World.block_lt_of_cell? w _ hx143_3)).trans hx143_3
                replace hx143_4 := (HB.out.cell (World.block_lt_of_cell? w _ hx143_4)).trans hx143_4
                replace hx143_5 := (HB.out.cell (World.block_lt_of_cell? w _ hx143_5)).trans hx143_5
                replace hx143_6 := (HB.out.cell (World.block_lt_of_cell? w _ hx143_6)).trans hx143_6
                replace p143 := eq_true p143
                replace q143 := eq_true q143
                have p144 : 0 ≤ (x3_1 : Int) := of_decide_eq_true (by first | (with_reducible assumption) | assumption)
                have q144 : x3_1 < (l0.length : Int) := of_decide_eq_true (by first | (with_reducible assumption) | assumption)
                obtain ⟨ad144, e144, hx144_0, hx144_1, hx144_2, hx144_3, hx144_4, hx144_5, hx144_6⟩ := at_T32 HR0.out x3_1 p144 q144
                obtain rfl : ad143 = ad144 := (by injection e144)
                replace hx144_0 := (HB.out.cell (World.block_lt_of_cell? w _ hx144_0)).trans hx144_0
                replace hx144_1 := (HB.out.cell (World.block_lt_of_cell? w _ hx144_1)).trans hx144_1
                replace hx144_2 := (HB.out.cell (World.block_lt_of_cell? w _ hx144_2)).trans hx144_2
                replace hx144_3 := (HB.out.cell (World.block_lt_of_cell? w _ hx144_3)).trans hx144_3
                replace hx144_4 := (HB.out.cell (World.block_lt_of_cell? w _ hx144_4)).trans hx144_4
                replace hx144_5 := (HB.out.cell (World.block_lt_of_cell? w _ hx144_5)).trans hx144_5
                replace hx144_6 := (HB.out.cell (World.block_lt_of_cell? w _ hx144_6)).trans hx144_6
                replace p144 := eq_true p144
                replace q144 := eq_true q144
                go_wp2
                repeat (go_quiet (fail); try go_wp2)
                go_roundg k1
                case measure => have := HK1.out; omega
                case rel => exact ⟨(wrap64 (x3_1 + 1)), (by first | rfl | (simp; done) | (simp [*]; done)), H', ⟨by have := HK1.out; omega⟩, ⟨by repeat (first | (with_reducible first | exact HB.out | apply below_alloc | apply pw_below_drewN | apply below_drew1) | exact HB.out)⟩⟩
            · rw [if_neg c6] at H
              exact absurd H (by simp)
          · rw [if_neg c5] at H
            exact absurd H (by simp)
        · rw [if_neg c4] at H
          exact absurd H (by simp)
      · rw [if_neg c2] at H
        have c2b0 : decide (x3_1 < (l0.length : Int)) = false := decide_eq_false c2
        clear c2
        by_cases c8 : (l0.length : Int) ≤ 1024
        · rw [if_pos c8] at H
          have c8b0 : decide ((l0.length : Int) ≤ 1024) = true := decide_eq_true c8
          have c8b1 : decide (l0.length ≤ 1024) = true := decide_eq_true (by omega)
          clear c8
          replace H := Option.bind_eq_some_iff.mp H
          obtain ⟨t145, A90, H⟩ := H
          replace H : (some t145) = some r := H
          have A9 := Aside0.mk A90
          clear A90
          obtain rfl := Option.some.inj H
          go_wp2_with (first | (go_at_call 24; (with_reducible refine (preds_cmdRight.calls _ _ l0 t145 _ ?side1 ?side2 A9.out).mono ?_); (case side1 => repeat (first | exact (Kd.C_below HR0.out HB.out) | (with_reducible refine Kd.C_alloc ?_ _) | (with_reducible refine Kd.C_drewN ?_ _) | (with_reducible refine Kd.C_drew ?_))); (case side2 => exact HC0.out); rintro e w10 ⟨rfl, hb⟩; have n0_ := Aside0.mk (below_step (by repeat (first | (with_reducible first | exact HB.out | apply below_alloc | apply pw_below_drewN | apply below_drew1) | exact HB.out)) hb); clear HB; have HB := n0_; clear n0_; (try clear hb); (try clear hb2); (try clear hk); (try clear hi)))
          repeat (go_quiet (first | (go_at_call 24; (with_reducible refine (preds_cmdRight.calls _ _ l0 t145 _ ?side1 ?side2 A9.out).mono ?_); (case side1 => repeat (first | exact (Kd.C_below HR0.out HB.out) | (with_reducible refine Kd.C_alloc ?_ _) | (with_reducible refine Kd.C_drewN ?_ _) | (with_reducible refine Kd.C_drew ?_))); (case side2 => exact HC0.out); rintro e w10 ⟨rfl, hb⟩; have n0_ := Aside0.mk (below_step (by repeat (first | (with_reducible first | exact HB.out | apply below_alloc | apply pw_below_drewN | apply below_drew1) | exact HB.out)) hb); clear HB; have HB := n0_; clear n0_; (try clear hb); (try clear hb2); (try clear hk); (try clear hi))); try go_wp2_with (first | (go_at_call 24; (with_reducible refine (preds_cmdRight.calls _ _ l0 t145 _ ?side1 ?side2 A9.out).mono ?_); (case side1 => repeat (first | exact (Kd.C_below HR0.out HB.out) | (with_reducible refine Kd.C_alloc ?_ _) | (with_reducible refine Kd.C_drewN ?_ _) | (with_reducible refine Kd.C_drew ?_))); (case side2 => exact HC0.out); rintro e w10 ⟨rfl, hb⟩; have n0_ := Aside0.mk (below_step (by repeat (first | (with_reducible first | exact HB.out | apply below_alloc | apply pw_below_drewN | apply below_drew1) | exact HB.out)) hb); clear HB; have HB := n0_; clear n0_; (try clear hb); (try clear hb2); (try clear hk); (try clear hi))))
          go_ret
          exact ⟨by first | rfl | (simp [errW_none, errW_some] <;> rfl) | (simp [*, errW_none, errW_some] <;> rfl), by repeat (first | (with_reducible first | exact HB.out | apply below_alloc | apply pw_below_drewN | apply below_drew1) | exact HB.out)⟩
        · rw [if_neg c8] at H
          have c8b0 : decide ((l0.length : Int) ≤ 1024) = false := decide_eq_false c8
          have c8b1 : decide (l0.length ≤ 1024) = false := decide_eq_false (by omega)
          clear c8
          obtain rfl := Option.some.inj H
          go_wp2
          repeat (go_quiet (fail); try go_wp2)
          go_ret
          exact ⟨by first | rfl | (simp [errW_none, errW_some] <;> rfl) | (simp [*, errW_none, errW_some] <;> rfl), by repeat (first | (with_reducible first | exact HB.out | apply below_alloc | apply pw_below_drewN | apply below_drew1) | exact HB.out)⟩

/-! ### preds_byName: function 26 -/
def preds_byName.f (a0_0 : Int) (a0_1 : Int) (a0_2 : Int) (a0_3 : Int) (a0_4 : Int) (a0_5 : Int) (a0_6 : Int) (a1_0 : Int) (a1_1 : Int) (a1_2 : Int) (a1_3 : Int) (a1_4 : Int) (a1_5 : Int) (a1_6 : Int) : Option (Int) := some (wrap64 (a0_0 - a1_0))
set_option maxHeartbeats 8000000 in
set_option maxRecDepth 100000 in
theorem preds_byName.calls (a0_0 : Int) (a0_1 : Int) (a0_2 : Int) (a0_3 : Int) (a0_4 : Int) (a0_5 : Int) (a0_6 : Int) (a1_0 : Int) (a1_1 : Int) (a1_2 : Int) (a1_3 : Int) (a1_4 : Int) (a1_5 : Int) (a1_6 : Int) (r : Int) (w : World) (h : preds_byName.f a0_0 a0_1 a0_2 a0_3 a0_4 a0_5 a0_6 a1_0 a1_1 a1_2 a1_3 a1_4 a1_5 a1_6 = some r) :
    Calls Try.prog 26 #[.agg #[.int .i64 a0_0, .int .i64 a0_1, .int .i64 a0_2, .int .i64 a0_3, .int .i64 a0_4, .int .i64 a0_5, .int .i64 a0_6], .agg #[.int .i64 a1_0, .int .i64 a1_1, .int .i64 a1_2, .int .i64 a1_3, .int .i64 a1_4, .int .i64 a1_5, .int .i64 a1_6]] w fun e w' => e = .returned (.int .i64 r) ∧ Below w.heap.size w w' := by
  have hu32 := Try.underlying32
  have HB := Aside0.mk (Below.refl w.heap.size w)
  have H : (some (wrap64 (a0_0 - a1_0))) = some r := h
  clear h
  obtain rfl := Option.some.inj H
  go_enter Try.func26, Try.ntmps26
  go_wp2_with (first | ((with_reducible refine gate_dst (N := 2) rfl ?_); refine box_event ?hg (N := 2) ?hd (cs := #[.int .i64 a0_0, .int .i64 a0_1, .int .i64 a0_2, .int .i64 a0_3, .int .i64 a0_4, .int .i64 a0_5, .int .i64 a0_6]) (t := 32) ?hr ?_; (case hd => rfl); (case hg => rfl); (case hr => first | (go_simp; done) | (go_simp; rfl)); intro gb146 hg w3 hbox hb; have n0_ := Aside0.mk (below_step (by repeat (first | (with_reducible first | exact HB.out | apply below_alloc | apply pw_below_drewN | apply below_drew1) | exact HB.out)) hb); have n1_ := Aside0.mk (hbox); have n2_ := Aside0.mk ((by rw [hg]; exact (below_size (by repeat (first | (with_reducible first | exact HB.out | apply below_alloc | apply pw_below_drewN | apply below_drew1) | exact HB.out))) : w.heap.size ≤ gb146)); have n3_ := Aside0.mk ((by rw [hg]; exact (below_size (by repeat (first | (with_reducible first | exact HB.out | apply below_alloc | apply pw_below_drewN | apply below_drew1) | exact HB.out))) : w.heap.size ≤ gb146)); clear HB; have HB := n0_; have BK146 := n1_; have GW146 := n2_; have GE146 := n3_; clear n0_ n1_ n2_ n3_; clear hb hbox hg) | ((with_reducible refine gate_dst (N := 3) rfl ?_); refine box_event ?hg (N := 3) ?hd (cs := #[.int .i64 a1_0, .int .i64 a1_1, .int .i64 a1_2, .int .i64 a1_3, .int .i64 a1_4, .int .i64 a1_5, .int .i64 a1_6]) (t := 32) ?hr ?_; (case hd => rfl); (case hg => rfl); (case hr => first | (go_simp; done) | (go_simp; rfl)); intro gb147 hg w4 hbox hb; have n0_ := Aside0.mk (blk_below (g := gb146) (o := .cells #[.int .i64 a0_0, .int .i64 a0_1, .int .i64 a0_2, .int .i64 a0_3, .int .i64 a0_4, .int .i64 a0_5, .int .i64 a0_6] 32 (0, 0)) (by (with_reducible repeat (first | refine blk_drewN ?_ _ | refine blk_drew ?_ | refine blk_alloc ?_ _)); exact BK146.out) hb); have n1_ := Aside0.mk (below_step (by repeat (first | (with_reducible first | exact HB.out | apply below_alloc | apply pw_below_drewN | apply below_drew1 | refine below_set ?_ GE146.out) | exact HB.out)) hb); have n2_ := Aside0.mk (hbox); have n3_ := Aside0.mk ((by rw [hg]; exact (below_size (by repeat (first | (with_reducible first | exact HB.out | apply below_alloc | apply pw_below_drewN | apply below_drew1 | refine below_set ?_ GE146.out) | exact HB.out))) : w.heap.size ≤ gb147)); have n4_ := Aside0.mk ((by rw [hg]; exact (below_size (by repeat (first | (with_reducible first | exact HB.out | apply below_alloc | apply pw_below_drewN | apply below_drew1 | refine below_set ?_ GE146.out) | exact HB.out))) : w.heap.size ≤ gb147)); have n5_ := Aside0.mk ((by rw [hg]; exact Nat.ne_of_lt (blk_lt (g := gb146) (o := .cells #[.int .i64 a0_0, .int .i64 a0_1, .int .i64 a0_2, .int .i64 a0_3, .int .i64 a0_4, .int .i64 a0_5, .int .i64 a0_6] 32 (0, 0)) (by (with_reducible repeat (first | refine blk_drewN ?_ _ | refine blk_drew ?_ | refine blk_alloc ?_ _)); exact BK146.out)) : gb146 ≠ gb147)); have n6_ := Aside0.mk ((by rw [hg]; exact Nat.ne_of_gt (blk_lt (g := gb146) (o := .cells #[.int .i64 a0_0, .int .i64 a0_1, .int .i64 a0_2, .int .i64 a0_3, .int .i64 a0_4, .int .i64 a0_5, .int .i64 a0_6] 32 (0, 0)) (by (with_reducible repeat (first | refine blk_drewN ?_ _ | refine blk_drew ?_ | refine blk_alloc ?_ _)); exact BK146.out)) : gb147 ≠ gb146)); clear BK146; clear HB; have BK146 := n0_; have HB := n1_; have BK147 := n2_; have GW147 := n3_; have GE147 := n4_; have NB146_147 := n5_; have NB147_146 := n6_; clear n0_ n1_ n2_ n3_ n4_ n5_ n6_; clear hb hbox hg; have hnb5 := NB146_147.out; have hnc5 := NB147_146.out; have hcz6_0 : w4.cell? ⟨gb146, 0, none⟩ = some (.int .i64 a0_0) := (blk_cell BK146.out 0).trans rfl; have hcz6_1 : w4.cell? ⟨gb146, 1, none⟩ = some (.int .i64 a0_1) := (blk_cell BK146.out 1).trans rfl; have hcz6_2 : w4.cell? ⟨gb146, 2, none⟩ = some (.int .i64 a0_2) := (blk_cell BK146.out 2).trans rfl; have hcz6_3 : w4.cell? ⟨gb146, 3, none⟩ = some (.int .i64 a0_3) := (blk_cell BK146.out 3).trans rfl; have hcz6_4 : w4.cell? ⟨gb146, 4, none⟩ = some (.int .i64 a0_4) := (blk_cell BK146.out 4).trans rfl; have hcz6_5 : w4.cell? ⟨gb146, 5, none⟩ = some (.int .i64 a0_5) := (blk_cell BK146.out 5).trans rfl; have hcz6_6 : w4.cell? ⟨gb146, 6, none⟩ = some (.int .i64 a0_6) := (blk_cell BK146.out 6).trans rfl; have hfz6_0 := blk_frozen BK146.out 0; have hfz6_1 := blk_frozen BK146.out 1; have hfz6_2 := blk_frozen BK146.out 2; have hfz6_3 := blk_frozen BK146.out 3; have hfz6_4 := blk_frozen BK146.out 4; have hfz6_5 := blk_frozen BK146.out 5; have hfz6_6 := blk_frozen BK146.out 6; have hcz7_0 : w4.cell? ⟨gb147, 0, none⟩ = some (.int .i64 a1_0) := (blk_cell BK147.out 0).trans rfl; have hcz7_1 : w4.cell? ⟨gb147, 1, none⟩ = some (.int .i64 a1_1) := (blk_cell BK147.out 1).trans rfl; have hcz7_2 : w4.cell? ⟨gb147, 2, none⟩ = some (.int .i64 a1_2) := (blk_cell BK147.out 2).trans rfl; have hcz7_3 : w4.cell? ⟨gb147, 3, none⟩ = some (.int .i64 a1_3) := (blk_cell BK147.out 3).trans rfl; have hcz7_4 : w4.cell? ⟨gb147, 4, none⟩ = some (.int .i64 a1_4) := (blk_cell BK147.out 4).trans rfl; have hcz7_5 : w4.cell? ⟨gb147, 5, none⟩ = some (.int .i64 a1_5) := (blk_cell BK147.out 5).trans rfl; have hcz7_6 : w4.cell? ⟨gb147, 6, none⟩ = some (.int .i64 a1_6) := (blk_cell BK147.out 6).trans rfl; have hfz7_0 := blk_frozen BK147.out 0; have hfz7_1 := blk_frozen BK147.out 1; have hfz7_2 := blk_frozen BK147.out 2; have hfz7_3 := blk_frozen BK147.out 3; have hfz7_4 := blk_frozen BK147.out 4; have hfz7_5 := blk_frozen BK147.out 5; have hfz7_6 := blk_frozen BK147.out 6))
  go_ret
  exact ⟨by first | rfl | (simp [errW_none, errW_some] <;> rfl) | (simp [*, errW_none, errW_some] <;> rfl), by repeat (first | (with_reducible first | exact HB.out | apply below_alloc | apply pw_below_drewN | apply below_drew1 | refine below_set ?_ GE146.out | refine below_set ?_ GE147.out) | exact HB.out)⟩

/-! ### api_Cmd_39: function 39 -/
mutual
def api_Cmd_39.l0 : Nat → List (S32) → Int → Int → Int → Option ((List (S32)))
  | 0, _, _, _, _ => none
  | k + 1, x0, x1, x2, x8 => if x8 < x2 then (api_Cmd_39.l1 k x0 x1 x2 x8 x8) else (some x0)
def api_Cmd_39.l1 : Nat → List (S32) → Int → Int → Int → Int → Option ((List (S32)))
  | 0, _, _, _, _, _ => none
  | k + 1, x0, x1, x2, x8, x9 => if x9 > x1 then (if 0 ≤ x9 then (if x9 < (x0.length : Int) then (if 0 ≤ (wrap64 (x9 - 1)) then (if (wrap64 (x9 - 1)) < (x0.length : Int) then ((preds_byName.f ((rd_T32 x0 x9).f0) ((rd_T32 x0 x9).f1) ((rd_T32 x0 x9).f2) ((rd_T32 x0 x9).f3) ((rd_T32 x0 x9).f4) ((rd_T32 x0 x9).f5) ((rd_T32 x0 x9).f6) ((rd_T32 x0 (wrap64 (x9 - 1))).f0) ((rd_T32 x0 (wrap64 (x9 - 1))).f1) ((rd_T32 x0 (wrap64 (x9 - 1))).f2) ((rd_T32 x0 (wrap64 (x9 - 1))).f3) ((rd_T32 x0 (wrap64 (x9 - 1))).f4) ((rd_T32 x0 (wrap64 (x9 - 1))).f5) ((rd_T32 x0 (wrap64 (x9 - 1))).f6)).bind fun t150 => (if t150 < 0 then (api_Cmd_39.l1 k ((x0.set (x9 : Int).toNat (⟨(rd_T32 x0 (wrap64 (x9 - 1))).f0, (rd_T32 x0 (wrap64 (x9 - 1))).f1, (rd_T32 x0 (wrap64 (x9 - 1))).f2, (rd_T32 x0 (wrap64 (x9 - 1))).f3, (rd_T32 x0 (wrap64 (x9 - 1))).f4, (rd_T32 x0 (wrap64 (x9 - 1))).f5, (rd_T32 x0 (wrap64 (x9 - 1))).f6⟩ : S32)).set ((wrap64 (x9 - 1)) : Int).toNat (⟨(rd_T32 x0 x9).f0, (rd_T32 x0 x9).f1, (rd_T32 x0 x9).f2, (rd_T32 x0 x9).f3, (rd_T32 x0 x9).f4, (rd_T32 x0 x9).f5, (rd_T32 x0 x9).f6⟩ : S32)) x1 x2 x8 (wrap64 (x9 - 1))) else (api_Cmd_39.l0 k x0 x1 x2 (wrap64 (x8 + 1))))) else (none)) else (none)) else (none)) else (none)) else (api_Cmd_39.l0 k x0 x1 x2 (wrap64 (x8 + 1)))
end
def api_Cmd_39.f (k : Nat) (l0 : List (S32)) (a1 : Int) (a2 : Int) (a3 : Int) : Option ((List (S32))) := api_Cmd_39.l0 k l0 a1 a2 (wrap64 (a1 + 1))
theorem api_Cmd_39.mono_l : ∀ k, (∀ y0 y1 y2 y3, LeO (api_Cmd_39.l0 k y0 y1 y2 y3) (api_Cmd_39.l0 (k + 1) y0 y1 y2 y3)) ∧ (∀ y0 y1 y2 y3 y4, LeO (api_Cmd_39.l1 k y0 y1 y2 y3 y4) (api_Cmd_39.l1 (k + 1) y0 y1 y2 y3 y4))
  | 0 => ⟨fun _ _ _ _ r h => by simp [api_Cmd_39.l0] at h, fun _ _ _ _ _ r h => by simp [api_Cmd_39.l1] at h⟩
  | k + 1 => by
    obtain ⟨ih0, ih1⟩ := api_Cmd_39.mono_l k
    refine ⟨?_, ?_⟩
    · intro y0 y1 y2 y3
      unfold api_Cmd_39.l0
      repeat' first
      | (with_reducible exact ih0 _ _ _ _)
      | (with_reducible exact ih1 _ _ _ _ _)
      | (with_reducible exact LeO.refl _)
      | (with_reducible exact LeO.none _)
      | (with_reducible refine LeO.ite ?_ ?_)
      | (with_reducible refine LeO.bind ?_ (fun _ => ?_))
      | exact ih0 _ _ _ _
      | exact ih1 _ _ _ _ _
      | exact LeO.none _
      | refine LeO.ite ?_ ?_
      | refine LeO.bind ?_ (fun _ => ?_)
    · intro y0 y1 y2 y3 y4
      unfold api_Cmd_39.l1
      repeat' first
      | (with_reducible exact ih0 _ _ _ _)
      | (with_reducible exact ih1 _ _ _ _ _)
      | (with_reducible exact LeO.refl _)
      | (with_reducible exact LeO.none _)
      | (with_reducible refine LeO.ite ?_ ?_)
      | (with_reducible refine LeO.bind ?_ (fun _ => ?_))
      | exact ih0 _ _ _ _
      | exact ih1 _ _ _ _ _
      | exact LeO.none _
      | refine LeO.ite ?_ ?_
      | refine LeO.bind ?_ (fun _ => ?_)
theorem api_Cmd_39.mono : ∀ a0 a1 a2 a3 k, LeO (api_Cmd_39.f k a0 a1 a2 a3) (api_Cmd_39.f (k + 1) a0 a1 a2 a3) := by
  intro a0 a1 a2 a3 k
  obtain ⟨ih0, ih1⟩ := api_Cmd_39.mono_l k
  unfold api_Cmd_39.f
  repeat' first
      | (with_reducible exact ih0 _ _ _ _)
      | (with_reducible exact ih1 _ _ _ _ _)
      | (with_reducible exact LeO.refl _)
      | (with_reducible exact LeO.none _)
      | (with_reducible refine LeO.ite ?_ ?_)
      | (with_reducible refine LeO.bind ?_ (fun _ => ?_))
      | exact ih0 _ _ _ _
      | exact ih1 _ _ _ _ _
      | exact LeO.none _
      | refine LeO.ite ?_ ?_
      | refine LeO.bind ?_ (fun _ => ?_)
def api_Cmd_39.T4 : Bool × List (List Nat × List Nat) := (true, [([], []), ([], []), ([0, 1], [0, 1]), ([2], [2]), ([3], [3]), ([3], [3]), ([3], [3]), ([5, 6, 3], [3, 5, 6]), ([7, 3], [3, 7]), ([3], [3]), ([3], [3]), ([10, 3], [3, 10]), ([9, 11, 3], [3, 9, 11]), ([12, 3], [3, 12]), ([4, 8, 13, 3, 3], [3, 4, 8, 13]), ([14, 3], [3, 14]), ([3, 15], [3, 15])])
def api_Cmd_39.B4 : List Nat := [0, 0, 3, 7, 15, 15, 15, 111, 239, 15, 15, 1039, 3599, 7695, 16383, 32767, 65535]
theorem api_Cmd_39.tab4 : rtab .any (opsOf Try.f39 4) = api_Cmd_39.T4 := by kernel_rfl
theorem api_Cmd_39.bits4 : waitsOk api_Cmd_39.T4.2 api_Cmd_39.B4 = true := by kernel_rfl
def api_Cmd_39.T6 : Bool × List (List Nat × List Nat) := (true, [([], []), ([], []), ([], []), ([], []), ([3], [3]), ([], []), ([], []), ([6], [6]), ([5, 7], [5, 7]), ([8], [8]), ([], []), ([], []), ([10, 11], [10, 11]), ([12], [12]), ([0, 1, 0, 1, 5, 6, 7, 8, 9, 13], [0, 1]), ([14, 9, 0, 1, 5, 6, 7, 8, 9, 13], [9, 14]), ([2, 4, 0, 1, 2, 3, 4, 5, 6, 7, 8, 9, 10, 11, 12, 13, 14, 15], [2, 4]), ([16, 13, 15, 0, 1, 2, 3, 4, 5, 6, 7, 8, 9, 10, 11, 12, 13, 14, 15], [13, 16])])
def api_Cmd_39.B6 : List Nat := [0, 0, 0, 0, 8, 0, 0, 64, 224, 480, 0, 0, 3072, 7168, 16355, 32739, 65535, 131071]
theorem api_Cmd_39.tab6 : rtab .any (opsOf Try.f39 6) = api_Cmd_39.T6 := by kernel_rfl
theorem api_Cmd_39.bits6 : waitsOk api_Cmd_39.T6.2 api_Cmd_39.B6 = true := by kernel_rfl
set_option maxHeartbeats 8000000 in
set_option maxRecDepth 100000 in
theorem api_Cmd_39.calls (k : Nat) (P0_ : Nat → Prop) (u9000_ : Value) (l0 : List (S32)) (a1 : Int) (a2 : Int) (a3 : Int) (r : List (S32)) (w0 w : World) (hB : Below w0.heap.size w0 w) (ho0 : Kd.R k32 32 w w0.heap.size P0_ u9000_ l0) (h : api_Cmd_39.f k l0 a1 a2 a3 = some r) :
    Calls Try.prog 39 #[u9000_, .int .i64 a1, .int .i64 a2, .func (.func 26) #[] #[]] w fun e w' => e = .returned (.tuple #[]) ∧ Kd.R k32 32 w' w0.heap.size (fun k_ => (P0_ k_ ∨ w.heap.size ≤ k_)) u9000_ r ∧ Below w0.heap.size w0 w' ∧ Kept w w' (fun k_ => P0_ k_) := by
  have hu32 := Try.underlying32
  have HO0 := Aside0.mk (show Kd.R k32 32 w w0.heap.size (fun k_ => (P0_ k_ ∨ w.heap.size ≤ k_)) u9000_ l0 from Kd.R_mono ho0 (fun k_ hk => (.inl hk)))
  have HK := Aside0.mk (Kept.refl w (fun k_ => P0_ k_))
  have HW0 := Aside0.mk hB.size
  have HB := Aside0.mk hB
  clear hB
  have H : (api_Cmd_39.l0 k l0 a1 a2 (wrap64 (a1 + 1))) = some r := h
  clear h
  have H' := Aside0.mk H
  clear H
  go_enter Try.func39, Try.ntmps39
  go_wp2
  go_loopg [8] k (fun kq v8 w' => ∃ (x0_1 : List (S32)) (x8_1 : Int), v8 = .int .i64 x8_1 ∧ Aside0 (api_Cmd_39.l0 kq x0_1 a1 a2 x8_1 = some r) ∧ Aside0 (kq ≤ k) ∧ Aside0 (Kd.R k32 32 w' w0.heap.size (fun k_ => (P0_ k_ ∨ w.heap.size ≤ k_)) u9000_ x0_1) ∧ Aside0 (Kept w w' (fun k_ => P0_ k_)) ∧ Aside0 (Below w0.heap.size w0 w'))
  case atStart => exact ⟨(l0), (wrap64 (a1 + 1)), (by first | rfl | (simp; done) | (simp [*]; done)), H', ⟨Nat.le_refl _⟩, ⟨by (with_reducible repeat (first | apply Kd.R_alloc | apply Kd.R_drewN | apply Kd.R_drew)); exact HO0.out⟩, ⟨by repeat (first | (with_reducible first | exact HK.out | apply Kept.alloc | apply Kept.drewN | apply Kept.drew) | exact HK.out)⟩, ⟨by repeat (first | (with_reducible first | exact HB.out | apply below_alloc | apply pw_below_drewN | apply below_drew1) | exact HB.out)⟩⟩
  case round =>
    clear H'
    try clear p2
    try clear c3
    obtain ⟨x0_1, x8_1, rfl, HA, HK1, HO_0, HK, HB⟩ := hrel
    cases gk with
    | zero => exact absurd HA.out (by simp [api_Cmd_39.l0])
    | succ k1 =>
      have H := HA.out
      clear HA
      simp only [api_Cmd_39.l0] at H
      by_cases c5 : x8_1 < a2
      · rw [if_pos c5] at H
        have c5b0 : decide (x8_1 < a2) = true := decide_eq_true c5
        clear c5
        have H' := Aside0.mk H
        clear H
        go_wp2
        go_loopg [9] k1 (fun kq v9 w' => ∃ (x0_2 : List (S32)) (x9_2 : Int), v9 = .int .i64 x9_2 ∧ Aside0 (api_Cmd_39.l1 kq x0_2 a1 a2 x8_1 x9_2 = some r) ∧ Aside0 (kq ≤ k1) ∧ Aside0 (Kd.R k32 32 w' w0.heap.size (fun k_ => (P0_ k_ ∨ w.heap.size ≤ k_)) u9000_ x0_2) ∧ Aside0 (Kept w w' (fun k_ => P0_ k_)) ∧ Aside0 (Below w0.heap.size w0 w'))
        case atStart => exact ⟨(x0_1), (x8_1), (by first | rfl | (simp; done) | (simp [*]; done)), H', ⟨Nat.le_refl _⟩, ⟨by (with_reducible repeat (first | apply Kd.R_alloc | apply Kd.R_drewN | apply Kd.R_drew)); exact HO_0.out⟩, ⟨by repeat (first | (with_reducible first | exact HK.out | apply Kept.alloc | apply Kept.drewN | apply Kept.drew) | exact HK.out)⟩, ⟨by repeat (first | (with_reducible first | exact HB.out | apply below_alloc | apply pw_below_drewN | apply below_drew1) | exact HB.out)⟩⟩
        case round =>
          clear H'
          try clear p2
          try clear c3
          try clear c5
          try clear c5b0
          try clear p2
          obtain ⟨x0_2, x9_2, rfl, HA, HK2, HO_0, HK, HB⟩ := hrel
          cases gk with
          | zero => exact absurd HA.out (by simp [api_Cmd_39.l1])
          | succ k2 =>
            have H := HA.out
            clear HA
            simp only [api_Cmd_39.l1] at H
            by_cases c6 : x9_2 > a1
            · rw [if_pos c6] at H
              have c6b0 : decide (a1 < x9_2) = true := decide_eq_true c6
              clear c6
              by_cases c7 : 0 ≤ x9_2
              · rw [if_pos c7] at H
                have c7b0 : decide (0 ≤ x9_2) = true := decide_eq_true c7
                clear c7
                by_cases c8 : x9_2 < (x0_2.length : Int)
                · rw [if_pos c8] at H
                  have c8b0 : decide (x9_2 < (x0_2.length : Int)) = true := decide_eq_true c8
                  clear c8
                  obtain ⟨ji9, hji9⟩ : ∃ j_ : Int, (wrap64 (x9_2 - 1)) = j_ := ⟨_, rfl⟩
                  replace H : (if 0 ≤ (ji9) then (if (ji9) < (x0_2.length : Int) then ((preds_byName.f ((rd_T32 x0_2 x9_2).f0) ((rd_T32 x0_2 x9_2).f1) ((rd_T32 x0_2 x9_2).f2) ((rd_T32 x0_2 x9_2).f3) ((rd_T32 x0_2 x9_2).f4) ((rd_T32 x0_2 x9_2).f5) ((rd_T32 x0_2 x9_2).f6) ((rd_T32 x0_2 (ji9)).f0) ((rd_T32 x0_2 (ji9)).f1) ((rd_T32 x0_2 (ji9)).f2) ((rd_T32 x0_2 (ji9)).f3) ((rd_T32 x0_2 (ji9)).f4) ((rd_T32 x0_2 (ji9)).f5) ((rd_T32 x0_2 (ji9)).f6)).bind fun t150 => (if t150 < 0 then (api_Cmd_39.l1 k2 ((x0_2.set (x9_2 : Int).toNat (⟨(rd_T32 x0_2 (ji9)).f0, (rd_T32 x0_2 (ji9)).f1, (rd_T32 x0_2 (ji9)).f2, (rd_T32 x0_2 (ji9)).f3, (rd_T32 x0_2 (ji9)).f4, (rd_T32 x0_2 (ji9)).f5, (rd_T32 x0_2 (ji9)).f6⟩ : S32)).set ((ji9) : Int).toNat (⟨(rd_T32 x0_2 x9_2).f0, (rd_T32 x0_2 x9_2).f1, (rd_T32 x0_2 x9_2).f2, (rd_T32 x0_2 x9_2).f3, (rd_T32 x0_2 x9_2).f4, (rd_T32 x0_2 x9_2).f5, (rd_T32 x0_2 x9_2).f6⟩ : S32)) a1 a2 x8_1 ji9) else (api_Cmd_39.l0 k2 x0_2 a1 a2 (wrap64 (x8_1 + 1))))) else (none)) else (none)) = some r := by first | (rw [hji9] at H; exact H) | (simp only [hji9] at H ⊢; exact H)
                  have hji9w : (IntKind.i64.wrap (x9_2 - 1)) = ji9 := (i64_w _).trans hji9
                  by_cases c10 : 0 ≤ (ji9)
                  · rw [if_pos c10] at H
                    have c10b0 : decide (0 ≤ (ji9)) = true := decide_eq_true c10
                    clear c10
                    by_cases c11 : (ji9) < (x0_2.length : Int)
                    · rw [if_pos c11] at H
                      have c11b0 : decide ((ji9) < (x0_2.length : Int)) = true := decide_eq_true c11
                      clear c11
                      replace H := Option.bind_eq_some_iff.mp H
                      obtain ⟨t150, A120, H⟩ := H
                      replace H : (if t150 < 0 then (api_Cmd_39.l1 k2 ((x0_2.set (x9_2 : Int).toNat (⟨(rd_T32 x0_2 (ji9)).f0, (rd_T32 x0_2 (ji9)).f1, (rd_T32 x0_2 (ji9)).f2, (rd_T32 x0_2 (ji9)).f3, (rd_T32 x0_2 (ji9)).f4, (rd_T32 x0_2 (ji9)).f5, (rd_T32 x0_2 (ji9)).f6⟩ : S32)).set ((ji9) : Int).toNat (⟨(rd_T32 x0_2 x9_2).f0, (rd_T32 x0_2 x9_2).f1, (rd_T32 x0_2 x9_2).f2, (rd_T32 x0_2 x9_2).f3, (rd_T32 x0_2 x9_2).f4, (rd_T32 x0_2 x9_2).f5, (rd_T32 x0_2 x9_2).f6⟩ : S32)) a1 a2 x8_1 ji9) else (api_Cmd_39.l0 k2 x0_2 a1 a2 (wrap64 (x8_1 + 1)))) = some r := H
                      have A12 := Aside0.mk A120
                      clear A120
                      by_cases c13 : t150 < 0
                      · rw [if_pos c13] at H
                        have c13b0 : decide (t150 < 0) = true := decide_eq_true c13
                        clear c13
                        obtain ⟨y153, hy153⟩ : ∃ y_ : List (S32), y_ = (x0_2.set (x9_2 : Int).toNat (⟨(rd_T32 x0_2 (ji9)).f0, (rd_T32 x0_2 (ji9)).f1, (rd_T32 x0_2 (ji9)).f2, (rd_T32 x0_2 (ji9)).f3, (rd_T32 x0_2 (ji9)).f4, (rd_T32 x0_2 (ji9)).f5, (rd_T32 x0_2 (ji9)).f6⟩ : S32)) := ⟨_, rfl⟩
                        replace H : (api_Cmd_39.l1 k2 (y153.set ((ji9) : Int).toNat (⟨(rd_T32 x0_2 x9_2).f0, (rd_T32 x0_2 x9_2).f1, (rd_T32 x0_2 x9_2).f2, (rd_T32 x0_2 x9_2).f3, (rd_T32 x0_2 x9_2).f4, (rd_T32 x0_2 x9_2).f5, (rd_T32 x0_2 x9_2).f6⟩ : S32)) a1 a2 x8_1 ji9) = some r := by first | (rw [hy153]; with_reducible exact H) | (have H2_ := (Option.bind_some _ _).symm.trans H; rw [hy153]; with_reducible exact H2_) | (have H2_ := (Option.bind_some _ _).symm.trans H; with_reducible exact H2_) | with_reducible exact H | (rw [hy153]; exact H) | exact H
                        have Ny153 := Aside0.mk hy153
                        clear hy153
                        obtain ⟨y154, hy154⟩ : ∃ y_ : List (S32), y_ = (y153.set ((ji9) : Int).toNat (⟨(rd_T32 x0_2 x9_2).f0, (rd_T32 x0_2 x9_2).f1, (rd_T32 x0_2 x9_2).f2, (rd_T32 x0_2 x9_2).f3, (rd_T32 x0_2 x9_2).f4, (rd_T32 x0_2 x9_2).f5, (rd_T32 x0_2 x9_2).f6⟩ : S32)) := ⟨_, rfl⟩
                        replace H : (api_Cmd_39.l1 k2 y154 a1 a2 x8_1 ji9) = some r := by first | (rw [hy154]; with_reducible exact H) | (have H2_ := (Option.bind_some _ _).symm.trans H; rw [hy154]; with_reducible exact H2_) | (have H2_ := (Option.bind_some _ _).symm.trans H; with_reducible exact H2_) | with_reducible exact H | (rw [hy154]; exact H) | exact H
                        have Ny154 := Aside0.mk hy154
                        clear hy154
                        have H' := Aside0.mk H
                        clear H
                        try go_wp2
                        have n0_ := Aside0.mk (Kd.R_drew HO_0.out)
                        have n1_ := Aside0.mk (Kept.drew HK.out)
                        have n2_ := Aside0.mk (below_drew1 HB.out)
                        clear HO_0
                        clear HK
                        clear HB
                        have HO_0 := n0_
                        have HK := n1_
                        have HB := n2_
                        clear n0_ n1_ n2_
                        obtain ⟨Ao17, co17, eo17⟩ := Kd.R_slice HO_0.out
                        (first | subst eo17 | (injection eo17 with f1_ f2_ f3_; have f4_ := f1_.symm; have f5_ := f3_.symm; clear f1_ f2_ f3_; subst f4_; subst f5_))
                        have p148 : 0 ≤ (x9_2 : Int) := of_decide_eq_true (by first | (with_reducible assumption) | assumption)
                        have q148 : x9_2 < (x0_2.length : Int) := of_decide_eq_true (by first | (with_reducible assumption) | assumption)
                        obtain ⟨ad148, e148, hx148_0, hx148_1, hx148_2, hx148_3, hx148_4, hx148_5, hx148_6⟩ := at_T32 (Kd.R_reads' HO_0.out).2.2 x9_2 p148 q148
                        cases e148
                        replace p148 := eq_true p148
                        replace q148 := eq_true q148
                        have p149 : 0 ≤ ((ji9) : Int) := of_decide_eq_true (by first | (with_reducible assumption) | assumption)
                        have q149 : (ji9) < (x0_2.length : Int) := of_decide_eq_true (by first | (with_reducible assumption) | assumption)
                        obtain ⟨ad149, e149, hx149_0, hx149_1, hx149_2, hx149_3, hx149_4, hx149_5, hx149_6⟩ := at_T32 (Kd.R_reads' HO_0.out).2.2 (ji9) p149 q149
                        obtain rfl : ad148 = ad149 := (by injection e149)
                        replace p149 := eq_true p149
                        replace q149 := eq_true q149
                        have mixed : Try.prog.follows .mixedOrders = true := by first | rfl | kernel_rfl
                        have aE : ∀ w, (isAgg 32).run Try.prog w = .ok true w := by intro w_; first | (go_simp; done) | (simp [isAgg, hu32]; done)
                        have zE0 : ∀ w, (Go.sizeOf 32).run Try.prog w = .ok k32.sz w := by intro w_; first | (go_simp; rfl) | (simp [Go.sizeOf, hu32]; rfl)
                        obtain ⟨k7_, hk7_⟩ : ∃ k, k = k32.sz := ⟨_, rfl⟩
                        have zE : ∀ w, (Go.sizeOf 32).run Try.prog w = .ok k7_ w := by rw [hk7_]; exact zE0
                        clear zE0 hu32
                        obtain ⟨c0_, ha0_, la0_⟩ := Kd.C_loads (Kd.R_reads' HO_0.out).2.2 z32 x9_2 (of_eq_true p148) (of_eq_true q148)
                        replace ha0_ : k32.K _ (rd_T32 x0_2 x9_2) c0_ := ha0_
                        obtain rfl := k32_open ha0_
                        replace la0_ := la0_ Try.prog
                        rw [← hk7_] at la0_
                        obtain ⟨c1_, ha1_, la1_⟩ := Kd.C_loads (Kd.R_reads' HO_0.out).2.2 z32 (ji9) (of_eq_true p149) (of_eq_true q149)
                        replace ha1_ : k32.K _ (rd_T32 x0_2 (ji9)) c1_ := ha1_
                        obtain rfl := k32_open ha1_
                        replace la1_ := la1_ Try.prog
                        rw [← hk7_] at la1_
                        have HCG_ : ∀ p_ : Past wr.drew, Calls Try.prog 26 _ p_.now (fun e_ w_ => e_ = .returned _ ∧ ∃ q_ : Past wr.drew, w_ = q_.now) := fun p_ => (preds_byName.calls ((rd_T32 x0_2 x9_2).f0) ((rd_T32 x0_2 x9_2).f1) ((rd_T32 x0_2 x9_2).f2) ((rd_T32 x0_2 x9_2).f3) ((rd_T32 x0_2 x9_2).f4) ((rd_T32 x0_2 x9_2).f5) ((rd_T32 x0_2 x9_2).f6) ((rd_T32 x0_2 (ji9)).f0) ((rd_T32 x0_2 (ji9)).f1) ((rd_T32 x0_2 (ji9)).f2) ((rd_T32 x0_2 (ji9)).f3) ((rd_T32 x0_2 (ji9)).f4) ((rd_T32 x0_2 (ji9)).f5) ((rd_T32 x0_2 (ji9)).f6) t150 p_.now A12.out).mono (fun e_ w_ h_ => ⟨h_.1, ⟨w_, below_step p_.le h_.2⟩, rfl⟩)
                        have eg_ : ∀ args w, (callFunc 26 args).run Try.prog w = .ok (.enter 26 args) w := fun args w => enters_ Try.func26 (by kernel_rfl) rfl args w
                        clear hk7_
                        refine wp_region_past (by assumption) (by kernel_rfl) ?_
                        repeat (quiet_step (first | exact HCG_ _))
                        refine wpQuiet_nil ?_
                        intro w18 hwq_
                        have hle_ : Below wr.drew.heap.size wr.drew w18 := by obtain ⟨p_, rfl⟩ := hwq_; exact p_.le
                        have n0_ := Aside0.mk (Kd.R_below HO_0.out hle_)
                        have n1_ := Aside0.mk (Kept.below HK.out hle_)
                        have n2_ := Aside0.mk (below_step HB.out hle_)
                        clear HO_0 HK HB hwq_ hle_ HCG_ eg_ aE zE mixed
                        clear la0_ ha0_ la1_ ha1_
                        have HO_0 := n0_
                        have HK := n1_
                        have HB := n2_
                        clear n0_ n1_ n2_
                        have hu32 := Try.underlying32
                        try go_wp2
                        have n0_ := Aside0.mk (Kd.R_drew HO_0.out)
                        have n1_ := Aside0.mk (Kept.drew HK.out)
                        have n2_ := Aside0.mk (below_drew1 HB.out)
                        clear HO_0
                        clear HK
                        clear HB
                        have HO_0 := n0_
                        have HK := n1_
                        have HB := n2_
                        clear n0_ n1_ n2_
                        have mixed : Try.prog.follows .mixedOrders = true := by first | rfl | kernel_rfl
                        have pa_ : 0 ≤ (x9_2 : Int) := of_decide_eq_true (by first | (with_reducible assumption) | assumption)
                        have qa_ : (x9_2 : Int) < (x0_2.length : Int) := of_decide_eq_true (by first | (with_reducible assumption) | assumption)
                        have pb_ : 0 ≤ ((ji9) : Int) := of_decide_eq_true (by first | (with_reducible assumption) | assumption)
                        have qb_ : ((ji9) : Int) < (x0_2.length : Int) := of_decide_eq_true (by first | (with_reducible assumption) | assumption)
                        obtain ⟨go14, co14, eo14, gb14, gl14, cl14, HG14⟩ := Kd.R_form HO_0.out (by omega)
                        (first | cases eo14 | (injection eo14 with ea_ en_ ec_; (first | subst ea_ | (injection ea_ with ea_; subst ea_)); subst ec_; clear en_))
                        have GB14 := Aside0.mk gb14
                        have HMgo14 := Aside0.mk (show (P0_ go14 ∨ w.heap.size ≤ go14) from (HO_0.out.1 _ rfl))
                        clear gb14 gl14 HG14
                        have aE : ∀ w, (isAgg 32).run Try.prog w = .ok true w := by intro w_; first | (go_simp; done) | (simp [isAgg, hu32]; done)
                        have zE0 : ∀ w, (Go.sizeOf 32).run Try.prog w = .ok k32.sz w := by intro w_; first | (go_simp; rfl) | (simp [Go.sizeOf, hu32]; rfl)
                        obtain ⟨k7_, hk7_⟩ : ∃ k, k = k32.sz := ⟨_, rfl⟩
                        have zE : ∀ w, (Go.sizeOf 32).run Try.prog w = .ok k7_ w := by rw [hk7_]; exact zE0
                        clear zE0 hu32
                        obtain ⟨ca_, cb_, la_, lb_, ld1_, ld2_, st1_, st2_, HR_, HG_⟩ := Kd.R_swap HO_0.out z32 x9_2 (ji9) pa_ qa_ pb_ qb_
                        rw [← hk7_] at la_ lb_ HR_ HG_
                        replace ld1_ : Sem.run Try.prog (loadCellsFrom ⟨go14, (x9_2 : Int).toNat * k7_, none⟩ 0 k7_ #[]) w18.drew = .ok ca_.toArray w18.drew := by rw [hk7_]; exact ld1_ _
                        replace ld2_ : Sem.run Try.prog (loadCellsFrom ⟨go14, ((ji9) : Int).toNat * k7_, none⟩ 0 k7_ #[]) w18.drew = .ok cb_.toArray w18.drew := by rw [hk7_]; exact ld2_ _
                        replace st1_ : Sem.run Try.prog (storeCells ⟨go14, (x9_2 : Int).toNat * k7_, none⟩ cb_ 0) w18.drew = .ok () (w18.drew.setCells go14 ((x9_2 : Int).toNat * k7_) cb_) := by rw [hk7_]; exact st1_ _
                        replace st2_ : Sem.run Try.prog (storeCells ⟨go14, ((ji9) : Int).toNat * k7_, none⟩ ca_ 0) (w18.drew.setCells go14 ((x9_2 : Int).toNat * k7_) cb_) = .ok () ((w18.drew.setCells go14 ((x9_2 : Int).toNat * k7_) cb_).setCells go14 (((ji9) : Int).toNat * k7_) ca_) := by rw [hk7_]; exact st2_ _
                        have ey_ : y154 = ((x0_2.set (x9_2 : Int).toNat (x0_2.getD ((ji9) : Int).toNat z32)).set ((ji9) : Int).toNat (x0_2.getD (x9_2 : Int).toNat z32)) := by rw [Ny154.out, Ny153.out]; rfl
                        rw [← ey_] at HR_
                        have HQ21 := Aside0.mk HR_
                        have n1_ := Aside0.mk (Kept.of_grown HG_ HK.out (fun k_ he_ => by cases he_; exact HMgo14.out))
                        have n2_ := Aside0.mk (HB.out.grown HG_ (Nat.le_trans (Nat.le_refl _) HB.out.size) (fun k_ he_ => by cases he_; exact GB14.out))
                        clear HK HB HO_0
                        have HK := n1_
                        have HB := n2_
                        clear n1_ n2_ HR_ HG_ hk7_ ey_
                        replace pa_ := eq_true pa_
                        replace qa_ := eq_true qa_
                        replace pb_ := eq_true pb_
                        replace qb_ := eq_true qb_
                        go_big_region_o
                        all_goals go_wp2
                        have hu32 := Try.underlying32
                        try go_wp2
                        go_roundg k2
                        case measure => have := HK1.out; have := HK2.out; omega
                        case rel => exact ⟨(y154), (ji9), (by first | rfl | (simp; done) | (simp only [← hji9] <;> (first | rfl | simp)) | (simp [*]; done)), H', ⟨by have := HK1.out; have := HK2.out; omega⟩, ⟨by (with_reducible repeat (first | apply Kd.R_alloc | apply Kd.R_drewN | apply Kd.R_drew)); exact HQ21.out⟩, ⟨by repeat (first | (with_reducible first | exact HK.out | apply Kept.alloc | apply Kept.drewN | apply Kept.drew | refine Kept.setCell ?_ HMgo14.out _ | refine Kept.setCell ?_ HMgo14.out _ | refine Kept.setCell ?_ HMgo14.out _ | refine Kept.setCell ?_ HMgo14.out _ | refine Kept.setCell ?_ HMgo14.out _ | refine Kept.setCell ?_ HMgo14.out _ | refine Kept.setCell ?_ HMgo14.out _ | refine Kept.setCell ?_ HMgo14.out _ | refine Kept.setCell ?_ HMgo14.out _ | refine Kept.setCell ?_ HMgo14.out _ | refine Kept.setCell ?_ HMgo14.out _ | refine Kept.setCell ?_ HMgo14.out _ | refine Kept.setCell ?_ HMgo14.out _ | refine Kept.setCell ?_ HMgo14.out _) | exact HK.out)⟩, ⟨by repeat (first | (with_reducible first | exact HB.out | apply below_alloc | apply pw_below_drewN | apply below_drew1 | refine below_set ?_ GB14.out | refine below_set ?_ GB14.out | refine below_set ?_ GB14.out | refine below_set ?_ GB14.out | refine below_set ?_ GB14.out | refine below_set ?_ GB14.out | refine below_set ?_ GB14.out | refine below_set ?_ GB14.out | refine below_set ?_ GB14.out | refine below_set ?_ GB14.out | refine below_set ?_ GB14.out | refine below_set ?_ GB14.out | refine below_set ?_ GB14.out | refine below_set ?_ GB14.out) | exact HB.out)⟩⟩
                      · rw [if_neg c13] at H
                        have c13b0 : decide (t150 < 0) = false := decide_eq_false c13
                        clear c13
                        have H' := Aside0.mk H
                        clear H
                        try go_wp2
                        have n0_ := Aside0.mk (Kd.R_drew HO_0.out)
                        have n1_ := Aside0.mk (Kept.drew HK.out)
                        have n2_ := Aside0.mk (below_drew1 HB.out)
                        clear HO_0
                        clear HK
                        clear HB
                        have HO_0 := n0_
                        have HK := n1_
                        have HB := n2_
                        clear n0_ n1_ n2_
                        obtain ⟨Ao23, co23, eo23⟩ := Kd.R_slice HO_0.out
                        (first | subst eo23 | (injection eo23 with f1_ f2_ f3_; have f4_ := f1_.symm; have f5_ := f3_.symm; clear f1_ f2_ f3_; subst f4_; subst f5_))
                        have p148 : 0 ≤ (x9_2 : Int) := of_decide_eq_true (by first | (with_reducible assumption) | assumption)
                        have q148 : x9_2 < (x0_2.length : Int) := of_decide_eq_true (by first | (with_reducible assumption) | assumption)
                        obtain ⟨ad148, e148, hx148_0, hx148_1, hx148_2, hx148_3, hx148_4, hx148_5, hx148_6⟩ := at_T32 (Kd.R_reads' HO_0.out).2.2 x9_2 p148 q148
                        cases e148
                        replace p148 := eq_true p148
                        replace q148 := eq_true q148
                        have p149 : 0 ≤ ((ji9) : Int) := of_decide_eq_true (by first | (with_reducible assumption) | assumption)
                        have q149 : (ji9) < (x0_2.length : Int) := of_decide_eq_true (by first | (with_reducible assumption) | assumption)
                        obtain ⟨ad149, e149, hx149_0, hx149_1, hx149_2, hx149_3, hx149_4, hx149_5, hx149_6⟩ := at_T32 (Kd.R_reads' HO_0.out).2.2 (ji9) p149 q149
                        obtain rfl : ad148 = ad149 := (by injection e149)
                        replace p149 := eq_true p149
                        replace q149 := eq_true q149
                        have mixed : Try.prog.follows .mixedOrders = true := by first | rfl | kernel_rfl
                        have aE : ∀ w, (isAgg 32).run Try.prog w = .ok true w := by intro w_; first | (go_simp; done) | (simp [isAgg, hu32]; done)
                        have zE0 : ∀ w, (Go.sizeOf 32).run Try.prog w = .ok k32.sz w := by intro w_; first | (go_simp; rfl) | (simp [Go.sizeOf, hu32]; rfl)
                        obtain ⟨k7_, hk7_⟩ : ∃ k, k = k32.sz := ⟨_, rfl⟩
                        have zE : ∀ w, (Go.sizeOf 32).run Try.prog w = .ok k7_ w := by rw [hk7_]; exact zE0
                        clear zE0 hu32
                        obtain ⟨c0_, ha0_, la0_⟩ := Kd.C_loads (Kd.R_reads' HO_0.out).2.2 z32 x9_2 (of_eq_true p148) (of_eq_true q148)
                        replace ha0_ : k32.K _ (rd_T32 x0_2 x9_2) c0_ := ha0_
                        obtain rfl := k32_open ha0_
                        replace la0_ := la0_ Try.prog
                        rw [← hk7_] at la0_
                        obtain ⟨c1_, ha1_, la1_⟩ := Kd.C_loads (Kd.R_reads' HO_0.out).2.2 z32 (ji9) (of_eq_true p149) (of_eq_true q149)
                        replace ha1_ : k32.K _ (rd_T32 x0_2 (ji9)) c1_ := ha1_
                        obtain rfl := k32_open ha1_
                        replace la1_ := la1_ Try.prog
                        rw [← hk7_] at la1_
                        have HCG_ : ∀ p_ : Past wr.drew, Calls Try.prog 26 _ p_.now (fun e_ w_ => e_ = .returned _ ∧ ∃ q_ : Past wr.drew, w_ = q_.now) := fun p_ => (preds_byName.calls ((rd_T32 x0_2 x9_2).f0) ((rd_T32 x0_2 x9_2).f1) ((rd_T32 x0_2 x9_2).f2) ((rd_T32 x0_2 x9_2).f3) ((rd_T32 x0_2 x9_2).f4) ((rd_T32 x0_2 x9_2).f5) ((rd_T32 x0_2 x9_2).f6) ((rd_T32 x0_2 (ji9)).f0) ((rd_T32 x0_2 (ji9)).f1) ((rd_T32 x0_2 (ji9)).f2) ((rd_T32 x0_2 (ji9)).f3) ((rd_T32 x0_2 (ji9)).f4) ((rd_T32 x0_2 (ji9)).f5) ((rd_T32 x0_2 (ji9)).f6) t150 p_.now A12.out).mono (fun e_ w_ h_ => ⟨h_.1, ⟨w_, below_step p_.le h_.2⟩, rfl⟩)
                        have eg_ : ∀ args w, (callFunc 26 args).run Try.prog w = .ok (.enter 26 args) w := fun args w => enters_ Try.func26 (by kernel_rfl) rfl args w
                        clear hk7_
                        refine wp_region_past (by assumption) (by kernel_rfl) ?_
                        repeat (quiet_step (first | exact HCG_ _))
                        refine wpQuiet_nil ?_
                        intro w24 hwq_
                        have hle_ : Below wr.drew.heap.size wr.drew w24 := by obtain ⟨p_, rfl⟩ := hwq_; exact p_.le
                        have n0_ := Aside0.mk (Kd.R_below HO_0.out hle_)
                        have n1_ := Aside0.mk (Kept.below HK.out hle_)
                        have n2_ := Aside0.mk (below_step HB.out hle_)
                        clear HO_0 HK HB hwq_ hle_ HCG_ eg_ aE zE mixed
                        clear la0_ ha0_ la1_ ha1_
                        have HO_0 := n0_
                        have HK := n1_
                        have HB := n2_
                        clear n0_ n1_ n2_
                        have hu32 := Try.underlying32
                        try go_wp2
                        go_roundg k2
                        case measure => have := HK1.out; have := HK2.out; omega
                        case rel => exact ⟨(x0_2), (wrap64 (x8_1 + 1)), (by first | rfl | (simp; done) | (simp [*]; done)), H', ⟨by have := HK1.out; have := HK2.out; omega⟩, ⟨by (with_reducible repeat (first | apply Kd.R_alloc | apply Kd.R_drewN | apply Kd.R_drew)); exact HO_0.out⟩, ⟨by repeat (first | (with_reducible first | exact HK.out | apply Kept.alloc | apply Kept.drewN | apply Kept.drew) | exact HK.out)⟩, ⟨by repeat (first | (with_reducible first | exact HB.out | apply below_alloc | apply pw_below_drewN | apply below_drew1) | exact HB.out)⟩⟩
                    · rw [if_neg c11] at H
                      exact absurd H (by simp)
                  · rw [if_neg c10] at H
                    exact absurd H (by simp)
                · rw [if_neg c8] at H
                  exact absurd H (by simp)
              · rw [if_neg c7] at H
                exact absurd H (by simp)
            · rw [if_neg c6] at H
              have c6b0 : decide (a1 < x9_2) = false := decide_eq_false c6
              clear c6
              have H' := Aside0.mk H
              clear H
              try go_wp2
              have n0_ := Aside0.mk (Kd.R_drew HO_0.out)
              have n1_ := Aside0.mk (Kept.drew HK.out)
              have n2_ := Aside0.mk (below_drew1 HB.out)
              clear HO_0
              clear HK
              clear HB
              have HO_0 := n0_
              have HK := n1_
              have HB := n2_
              clear n0_ n1_ n2_
              refine start_ (n := 17) (S := fun w' => True) (ds := []) #[false, false, false, false, false, false, false, false, false, false, false, false, false, false, false, false, false] (by kernel_rfl) rfl rfl trivial (fun hHeld => ?_); refine with_tabW api_Cmd_39.tab4 api_Cmd_39.bits4 (fun HT_ HW_ => ?_)
              generalize wr.drew = w25 at HO_0 HK HB hHeld ⊢
              refine pure_ (i := 0) (N := some 18) (v := ?_) (a' := ?_) #[true, false, false, false, false, false, false, false, false, false, false, false, false, false, false, false, false] rfl rfl (any_of HT_.out (by kernel_rfl)) (fun _ _ _ h => h) (Or.inl ⟨by rfl, ?_⟩) ?_ ?_
              rotate_left
              · intro w'
                go_simp
                with_reducible rfl
              rotate_left
              · simp only [Act.put, List.setIfInBounds_toArray, List.set_cons_zero, List.set_cons_succ, i64_w, i32_w]
                rfl
              refine pure_ (i := 1) (N := some 19) (v := ?_) (a' := ?_) #[true, true, false, false, false, false, false, false, false, false, false, false, false, false, false, false, false] rfl rfl (any_of HT_.out (by kernel_rfl)) (fun _ _ _ h => h) (Or.inl ⟨by rfl, ?_⟩) ?_ ?_
              rotate_left
              · intro w'
                go_simp
                with_reducible rfl
              rotate_left
              · simp only [Act.put, List.setIfInBounds_toArray, List.set_cons_zero, List.set_cons_succ, i64_w, i32_w]
                rfl
              refine pure_ (i := 2) (N := some 20) (v := ?_) (a' := ?_) #[true, true, true, false, false, false, false, false, false, false, false, false, false, false, false, false, false] rfl rfl (any_of HT_.out (by kernel_rfl)) (fun _ _ _ h => h) (Or.inl ⟨by rfl, ?_⟩) ?_ ?_
              rotate_left
              · intro w'
                go_simp
                with_reducible rfl
              rotate_left
              · simp only [Act.put, List.setIfInBounds_toArray, List.set_cons_zero, List.set_cons_succ, i64_w, i32_w]
                rfl
              refine pure_ (i := 3) (N := some 21) (v := ?_) (a' := ?_) #[true, true, true, true, false, false, false, false, false, false, false, false, false, false, false, false, false] rfl rfl (any_of HT_.out (by kernel_rfl)) (fun _ _ _ h => h) (Or.inl ⟨by rfl, ?_⟩) ?_ ?_
              rotate_left
              · intro w'
                go_simp
                with_reducible rfl
              rotate_left
              · simp only [Act.put, List.setIfInBounds_toArray, List.set_cons_zero, List.set_cons_succ, i64_w, i32_w]
                rfl
              refine pure_ (i := 4) (N := some 22) (v := undef) (a' := ?_) #[true, true, true, true, true, false, false, false, false, false, false, false, false, false, false, false, false] rfl rfl (any_of HT_.out (by kernel_rfl)) (fun _ _ _ h => h) (Or.inr ⟨by rfl, rfl⟩) ?_ ?_
              rotate_left
              · simp only [Act.put, List.setIfInBounds_toArray, List.set_cons_zero, List.set_cons_succ, i64_w, i32_w]
                rfl
              refine pure_ (i := 5) (N := some 23) (v := undef) (a' := ?_) #[true, true, true, true, true, true, false, false, false, false, false, false, false, false, false, false, false] rfl rfl (any_of HT_.out (by kernel_rfl)) (fun _ _ _ h => h) (Or.inr ⟨by rfl, rfl⟩) ?_ ?_
              rotate_left
              · simp only [Act.put, List.setIfInBounds_toArray, List.set_cons_zero, List.set_cons_succ, i64_w, i32_w]
                rfl
              refine pure_ (i := 6) (N := some 24) (v := undef) (a' := ?_) #[true, true, true, true, true, true, true, false, false, false, false, false, false, false, false, false, false] rfl rfl (any_of HT_.out (by kernel_rfl)) (fun _ _ _ h => h) (Or.inr ⟨by rfl, rfl⟩) ?_ ?_
              rotate_left
              · simp only [Act.put, List.setIfInBounds_toArray, List.set_cons_zero, List.set_cons_succ, i64_w, i32_w]
                rfl
              refine pure_ (i := 7) (N := some 25) (v := undef) (a' := ?_) #[true, true, true, true, true, true, true, true, false, false, false, false, false, false, false, false, false] rfl rfl (any_of HT_.out (by kernel_rfl)) (fun _ _ _ h => h) (Or.inr ⟨by rfl, rfl⟩) ?_ ?_
              rotate_left
              · simp only [Act.put, List.setIfInBounds_toArray, List.set_cons_zero, List.set_cons_succ, i64_w, i32_w]
                rfl
              refine pure_ (i := 8) (N := some 26) (v := undef) (a' := ?_) #[true, true, true, true, true, true, true, true, true, false, false, false, false, false, false, false, false] rfl rfl (any_of HT_.out (by kernel_rfl)) (fun _ _ _ h => h) (Or.inr ⟨by rfl, rfl⟩) ?_ ?_
              rotate_left
              · simp only [Act.put, List.setIfInBounds_toArray, List.set_cons_zero, List.set_cons_succ, i64_w, i32_w]
                rfl
              refine pure_ (i := 9) (N := some 27) (v := undef) (a' := ?_) #[true, true, true, true, true, true, true, true, true, true, false, false, false, false, false, false, false] rfl rfl (any_of HT_.out (by kernel_rfl)) (fun _ _ _ h => h) (Or.inr ⟨by rfl, rfl⟩) ?_ ?_
              rotate_left
              · simp only [Act.put, List.setIfInBounds_toArray, List.set_cons_zero, List.set_cons_succ, i64_w, i32_w]
                rfl
              refine pure_ (i := 10) (N := some 28) (v := undef) (a' := ?_) #[true, true, true, true, true, true, true, true, true, true, true, false, false, false, false, false, false] rfl rfl (any_of HT_.out (by kernel_rfl)) (fun _ _ _ h => h) (Or.inr ⟨by rfl, rfl⟩) ?_ ?_
              rotate_left
              · simp only [Act.put, List.setIfInBounds_toArray, List.set_cons_zero, List.set_cons_succ, i64_w, i32_w]
                rfl
              refine pure_ (i := 11) (N := some 29) (v := undef) (a' := ?_) #[true, true, true, true, true, true, true, true, true, true, true, true, false, false, false, false, false] rfl rfl (any_of HT_.out (by kernel_rfl)) (fun _ _ _ h => h) (Or.inr ⟨by rfl, rfl⟩) ?_ ?_
              rotate_left
              · simp only [Act.put, List.setIfInBounds_toArray, List.set_cons_zero, List.set_cons_succ, i64_w, i32_w]
                rfl
              refine pure_ (i := 12) (N := some 30) (v := undef) (a' := ?_) #[true, true, true, true, true, true, true, true, true, true, true, true, true, false, false, false, false] rfl rfl (any_of HT_.out (by kernel_rfl)) (fun _ _ _ h => h) (Or.inr ⟨by rfl, rfl⟩) ?_ ?_
              rotate_left
              · simp only [Act.put, List.setIfInBounds_toArray, List.set_cons_zero, List.set_cons_succ, i64_w, i32_w]
                rfl
              refine pure_ (i := 13) (N := some 31) (v := undef) (a' := ?_) #[true, true, true, true, true, true, true, true, true, true, true, true, true, true, false, false, false] rfl rfl (any_of HT_.out (by kernel_rfl)) (fun _ _ _ h => h) (Or.inr ⟨by rfl, rfl⟩) ?_ ?_
              rotate_left
              · simp only [Act.put, List.setIfInBounds_toArray, List.set_cons_zero, List.set_cons_succ, i64_w, i32_w]
                rfl
              refine pure_ (i := 14) (N := some 32) (v := undef) (a' := ?_) #[true, true, true, true, true, true, true, true, true, true, true, true, true, true, true, false, false] rfl rfl (any_of HT_.out (by kernel_rfl)) (fun _ _ _ h => h) (Or.inr ⟨by rfl, rfl⟩) ?_ ?_
              rotate_left
              · simp only [Act.put, List.setIfInBounds_toArray, List.set_cons_zero, List.set_cons_succ, i64_w, i32_w]
                rfl
              refine pure_ (i := 15) (N := some 33) (v := undef) (a' := ?_) #[true, true, true, true, true, true, true, true, true, true, true, true, true, true, true, true, false] rfl rfl (any_of HT_.out (by kernel_rfl)) (fun _ _ _ h => h) (Or.inr ⟨by rfl, rfl⟩) ?_ ?_
              rotate_left
              · simp only [Act.put, List.setIfInBounds_toArray, List.set_cons_zero, List.set_cons_succ, i64_w, i32_w]
                rfl
              refine pure_ (i := 16) (N := some 34) (v := ?_) (a' := ?_) #[true, true, true, true, true, true, true, true, true, true, true, true, true, true, true, true, true] rfl rfl (any_of HT_.out (by kernel_rfl)) (fun _ _ _ h => h) (Or.inl ⟨by rfl, ?_⟩) ?_ ?_
              rotate_left
              · intro w'
                go_simp
                with_reducible rfl
              rotate_left
              · simp only [Act.put, List.setIfInBounds_toArray, List.set_cons_zero, List.set_cons_succ, i64_w, i32_w]
                rfl
              refine done_ (done_of HT_.out (by kernel_rfl)) ?_
              try go_wp2
              go_roundg k2
              case measure => have := HK1.out; have := HK2.out; omega
              case rel => exact ⟨(x0_2), (wrap64 (x8_1 + 1)), (by first | rfl | (simp; done) | (simp [*]; done)), H', ⟨by have := HK1.out; have := HK2.out; omega⟩, ⟨by (with_reducible repeat (first | apply Kd.R_alloc | apply Kd.R_drewN | apply Kd.R_drew)); exact HO_0.out⟩, ⟨by repeat (first | (with_reducible first | exact HK.out | apply Kept.alloc | apply Kept.drewN | apply Kept.drew) | exact HK.out)⟩, ⟨by repeat (first | (with_reducible first | exact HB.out | apply below_alloc | apply pw_below_drewN | apply below_drew1) | exact HB.out)⟩⟩
      · rw [if_neg c5] at H
        have c5b0 : decide (x8_1 < a2) = false := decide_eq_false c5
        clear c5
        obtain rfl := Option.some.inj H
        go_wp2
        first | go_end0 | ((try simp only [Exit.inBlock, Exit.then]); refine bodyPost_ret (results_none rfl _ _ _) rfl ?_)
        exact ⟨by first | rfl | (simp [errW_none, errW_some] <;> rfl) | (simp [*, errW_none, errW_some] <;> rfl), by (with_reducible repeat (first | apply Kd.R_alloc | apply Kd.R_drewN | apply Kd.R_drew)); exact HO_0.out, by repeat (first | (with_reducible first | exact HB.out | apply below_alloc | apply pw_below_drewN | apply below_drew1) | exact HB.out), by repeat (first | (with_reducible first | exact HK.out | apply Kept.alloc | apply Kept.drewN | apply Kept.drew) | exact HK.out)⟩

/-! ### api_Cmd_47: function 47 -/
def api_Cmd_47.l0 : Nat → List (S32) → Int → Int → Int → Int → Option ((List (S32)))
  | 0, _, _, _, _, _ => none
  | k + 1, x0, x1, x2, x3, x10 => if x10 < x3 then (if 0 ≤ (wrap64 (x2 + x10)) then (if (wrap64 (x2 + x10)) < (x0.length : Int) then (if 0 ≤ (wrap64 (x1 + x10)) then (if (wrap64 (x1 + x10)) < (x0.length : Int) then (api_Cmd_47.l0 k ((x0.set ((wrap64 (x1 + x10)) : Int).toNat (⟨(rd_T32 x0 (wrap64 (x2 + x10))).f0, (rd_T32 x0 (wrap64 (x2 + x10))).f1, (rd_T32 x0 (wrap64 (x2 + x10))).f2, (rd_T32 x0 (wrap64 (x2 + x10))).f3, (rd_T32 x0 (wrap64 (x2 + x10))).f4, (rd_T32 x0 (wrap64 (x2 + x10))).f5, (rd_T32 x0 (wrap64 (x2 + x10))).f6⟩ : S32)).set ((wrap64 (x2 + x10)) : Int).toNat (⟨(rd_T32 x0 (wrap64 (x1 + x10))).f0, (rd_T32 x0 (wrap64 (x1 + x10))).f1, (rd_T32 x0 (wrap64 (x1 + x10))).f2, (rd_T32 x0 (wrap64 (x1 + x10))).f3, (rd_T32 x0 (wrap64 (x1 + x10))).f4, (rd_T32 x0 (wrap64 (x1 + x10))).f5, (rd_T32 x0 (wrap64 (x1 + x10))).f6⟩ : S32)) x1 x2 x3 (wrap64 (x10 + 1))) else (none)) else (none)) else (none)) else (none)) else (some x0)
def api_Cmd_47.f (k : Nat) (l0 : List (S32)) (a1 : Int) (a2 : Int) (a3 : Int) (a4 : Int) : Option ((List (S32))) := api_Cmd_47.l0 k l0 a1 a2 a3 0
theorem api_Cmd_47.mono_l : ∀ k, (∀ y0 y1 y2 y3 y4, LeO (api_Cmd_47.l0 k y0 y1 y2 y3 y4) (api_Cmd_47.l0 (k + 1) y0 y1 y2 y3 y4))
  | 0 => fun _ _ _ _ _ r h => by simp [api_Cmd_47.l0] at h
  | k + 1 => by
    have ih0 := api_Cmd_47.mono_l k
    · intro y0 y1 y2 y3 y4
      unfold api_Cmd_47.l0
      repeat' first
      | (with_reducible exact ih0 _ _ _ _ _)
      | (with_reducible exact LeO.refl _)
      | (with_reducible exact LeO.none _)
      | (with_reducible refine LeO.ite ?_ ?_)
      | (with_reducible refine LeO.bind ?_ (fun _ => ?_))
      | exact ih0 _ _ _ _ _
      | exact LeO.none _
      | refine LeO.ite ?_ ?_
      | refine LeO.bind ?_ (fun _ => ?_)
theorem api_Cmd_47.mono : ∀ a0 a1 a2 a3 a4 k, LeO (api_Cmd_47.f k a0 a1 a2 a3 a4) (api_Cmd_47.f (k + 1) a0 a1 a2 a3 a4) := by
  intro a0 a1 a2 a3 a4 k
  have ih0 := api_Cmd_47.mono_l k
  unfold api_Cmd_47.f
  repeat' first
      | (with_reducible exact ih0 _ _ _ _ _)
      | (with_reducible exact LeO.refl _)
      | (with_reducible exact LeO.none _)
      | (with_reducible refine LeO.ite ?_ ?_)
      | (with_reducible refine LeO.bind ?_ (fun _ => ?_))
      | exact ih0 _ _ _ _ _
      | exact LeO.none _
      | refine LeO.ite ?_ ?_
      | refine LeO.bind ?_ (fun _ => ?_)
def api_Cmd_47.T3 : Bool × List (List Nat × List Nat) := (true, [([], []), ([], []), ([], []), ([1, 2], [1, 2]), ([], []), ([], []), ([], []), ([5, 6], [5, 6]), ([], []), ([], []), ([], []), ([9, 10], [9, 10]), ([8, 11], [8, 11]), ([12], [12]), ([], []), ([], []), ([], []), ([15, 16], [15, 16]), ([14, 17], [14, 17]), ([18], [18]), ([0, 3, 0, 1, 2, 3, 8, 9, 10, 11, 12, 13, 19], [0, 3]), ([20, 13, 0, 1, 2, 3, 8, 9, 10, 11, 12, 13, 19], [13, 20]), ([4, 7, 0, 1, 2, 3, 4, 5, 6, 7, 8, 9, 10, 11, 12, 13, 14, 15, 16, 17, 18, 19, 20, 21], [4, 7]), ([22, 19, 21, 0, 1, 2, 3, 4, 5, 6, 7, 8, 9, 10, 11, 12, 13, 14, 15, 16, 17, 18, 19, 20, 21], [19, 22])])
def api_Cmd_47.B3 : List Nat := [0, 0, 0, 6, 0, 0, 0, 96, 0, 0, 0, 1536, 3840, 7936, 0, 0, 0, 98304, 245760, 507904, 1048335, 2096911, 4194303, 8388607]
theorem api_Cmd_47.tab3 : rtab .any (opsOf Try.f47 3) = api_Cmd_47.T3 := by kernel_rfl
theorem api_Cmd_47.bits3 : waitsOk api_Cmd_47.T3.2 api_Cmd_47.B3 = true := by kernel_rfl
set_option maxHeartbeats 8000000 in
set_option maxRecDepth 100000 in
theorem api_Cmd_47.calls (k : Nat) (P0_ : Nat → Prop) (u9000_ : Value) (l0 : List (S32)) (a1 : Int) (a2 : Int) (a3 : Int) (a4 : Int) (r : List (S32)) (w0 w : World) (hB : Below w0.heap.size w0 w) (ho0 : Kd.R k32 32 w w0.heap.size P0_ u9000_ l0) (h : api_Cmd_47.f k l0 a1 a2 a3 a4 = some r) :
    Calls Try.prog 47 #[u9000_, .int .i64 a1, .int .i64 a2, .int .i64 a3, .func (.func 26) #[] #[]] w fun e w' => e = .returned (.tuple #[]) ∧ Kd.R k32 32 w' w0.heap.size (fun k_ => (P0_ k_ ∨ w.heap.size ≤ k_)) u9000_ r ∧ Below w0.heap.size w0 w' ∧ Kept w w' (fun k_ => P0_ k_) := by
  have hu32 := Try.underlying32
  have HO0 := Aside0.mk (show Kd.R k32 32 w w0.heap.size (fun k_ => (P0_ k_ ∨ w.heap.size ≤ k_)) u9000_ l0 from Kd.R_mono ho0 (fun k_ hk => (.inl hk)))
  have HK := Aside0.mk (Kept.refl w (fun k_ => P0_ k_))
  have HW0 := Aside0.mk hB.size
  have HB := Aside0.mk hB
  clear hB
  have H : (api_Cmd_47.l0 k l0 a1 a2 a3 0) = some r := h
  clear h
  have H' := Aside0.mk H
  clear H
  go_enter Try.func47, Try.ntmps47
  go_wp2
  go_loopg [10] k (fun kq v10 w' => ∃ (x0_1 : List (S32)) (x10_1 : Int), v10 = .int .i64 x10_1 ∧ Aside0 (api_Cmd_47.l0 kq x0_1 a1 a2 a3 x10_1 = some r) ∧ Aside0 (kq ≤ k) ∧ Aside0 (Kd.R k32 32 w' w0.heap.size (fun k_ => (P0_ k_ ∨ w.heap.size ≤ k_)) u9000_ x0_1) ∧ Aside0 (Kept w w' (fun k_ => P0_ k_)) ∧ Aside0 (Below w0.heap.size w0 w'))
  case atStart => exact ⟨(l0), (0), (by first | rfl | (simp; done) | (simp [*]; done)), H', ⟨Nat.le_refl _⟩, ⟨by (with_reducible repeat (first | apply Kd.R_alloc | apply Kd.R_drewN | apply Kd.R_drew)); exact HO0.out⟩, ⟨by repeat (first | (with_reducible first | exact HK.out | apply Kept.alloc | apply Kept.drewN | apply Kept.drew) | exact HK.out)⟩, ⟨by repeat (first | (with_reducible first | exact HB.out | apply below_alloc | apply pw_below_drewN | apply below_drew1) | exact HB.out)⟩⟩
  case round =>
    clear H'
    try clear p2
    try clear c4
    obtain ⟨x0_1, x10_1, rfl, HA, HK1, HO_0, HK, HB⟩ := hrel
    cases gk with
    | zero => exact absurd HA.out (by simp [api_Cmd_47.l0])
    | succ k1 =>
      have H := HA.out
      clear HA
      simp only [api_Cmd_47.l0] at H
      by_cases c6 : x10_1 < a3
      · rw [if_pos c6] at H
        have c6b0 : decide (x10_1 < a3) = true := decide_eq_true c6
        clear c6
        obtain ⟨ji7, hji7⟩ : ∃ j_ : Int, (wrap64 (a2 + x10_1)) = j_ := ⟨_, rfl⟩
        replace H : (if 0 ≤ (ji7) then (if (ji7) < (x0_1.length : Int) then (if 0 ≤ (wrap64 (a1 + x10_1)) then (if (wrap64 (a1 + x10_1)) < (x0_1.length : Int) then (api_Cmd_47.l0 k1 ((x0_1.set ((wrap64 (a1 + x10_1)) : Int).toNat (⟨(rd_T32 x0_1 (ji7)).f0, (rd_T32 x0_1 (ji7)).f1, (rd_T32 x0_1 (ji7)).f2, (rd_T32 x0_1 (ji7)).f3, (rd_T32 x0_1 (ji7)).f4, (rd_T32 x0_1 (ji7)).f5, (rd_T32 x0_1 (ji7)).f6⟩ : S32)).set ((ji7) : Int).toNat (⟨(rd_T32 x0_1 (wrap64 (a1 + x10_1))).f0, (rd_T32 x0_1 (wrap64 (a1 + x10_1))).f1, (rd_T32 x0_1 (wrap64 (a1 + x10_1))).f2, (rd_T32 x0_1 (wrap64 (a1 + x10_1))).f3, (rd_T32 x0_1 (wrap64 (a1 + x10_1))).f4, (rd_T32 x0_1 (wrap64 (a1 + x10_1))).f5, (rd_T32 x0_1 (wrap64 (a1 + x10_1))).f6⟩ : S32)) a1 a2 a3 (wrap64 (x10_1 + 1))) else (none)) else (none)) else (none)) else (none)) = some r := by first | (rw [hji7] at H; exact H) | (simp only [hji7] at H ⊢; exact H)
        have hji7w : (IntKind.i64.wrap (a2 + x10_1)) = ji7 := (i64_w _).trans hji7
        by_cases c8 : 0 ≤ (ji7)
        · rw [if_pos c8] at H
          have c8b0 : decide (0 ≤ (ji7)) = true := decide_eq_true c8
          clear c8
          by_cases c9 : (ji7) < (x0_1.length : Int)
          · rw [if_pos c9] at H
            have c9b0 : decide ((ji7) < (x0_1.length : Int)) = true := decide_eq_true c9
            clear c9
            obtain ⟨ji10, hji10⟩ : ∃ j_ : Int, (wrap64 (a1 + x10_1)) = j_ := ⟨_, rfl⟩
            replace H : (if 0 ≤ (ji10) then (if (ji10) < (x0_1.length : Int) then (api_Cmd_47.l0 k1 ((x0_1.set ((ji10) : Int).toNat (⟨(rd_T32 x0_1 (ji7)).f0, (rd_T32 x0_1 (ji7)).f1, (rd_T32 x0_1 (ji7)).f2, (rd_T32 x0_1 (ji7)).f3, (rd_T32 x0_1 (ji7)).f4, (rd_T32 x0_1 (ji7)).f5, (rd_T32 x0_1 (ji7)).f6⟩ : S32)).set ((ji7) : Int).toNat (⟨(rd_T32 x0_1 (ji10)).f0, (rd_T32 x0_1 (ji10)).f1, (rd_T32 x0_1 (ji10)).f2, (rd_T32 x0_1 (ji10)).f3, (rd_T32 x0_1 (ji10)).f4, (rd_T32 x0_1 (ji10)).f5, (rd_T32 x0_1 (ji10)).f6⟩ : S32)) a1 a2 a3 (wrap64 (x10_1 + 1))) else (none)) else (none)) = some r := by first | (rw [hji10] at H; exact H) | (simp only [hji10] at H ⊢; exact H)
            have hji10w : (IntKind.i64.wrap (a1 + x10_1)) = ji10 := (i64_w _).trans hji10
            try simp only [hji10] at hji7w
            by_cases c11 : 0 ≤ (ji10)
            · rw [if_pos c11] at H
              have c11b0 : decide (0 ≤ (ji10)) = true := decide_eq_true c11
              clear c11
              by_cases c12 : (ji10) < (x0_1.length : Int)
              · rw [if_pos c12] at H
                have c12b0 : decide ((ji10) < (x0_1.length : Int)) = true := decide_eq_true c12
                clear c12
                obtain ⟨y157, hy157⟩ : ∃ y_ : List (S32), y_ = (x0_1.set ((ji10) : Int).toNat (⟨(rd_T32 x0_1 (ji7)).f0, (rd_T32 x0_1 (ji7)).f1, (rd_T32 x0_1 (ji7)).f2, (rd_T32 x0_1 (ji7)).f3, (rd_T32 x0_1 (ji7)).f4, (rd_T32 x0_1 (ji7)).f5, (rd_T32 x0_1 (ji7)).f6⟩ : S32)) := ⟨_, rfl⟩
                replace H : (api_Cmd_47.l0 k1 (y157.set ((ji7) : Int).toNat (⟨(rd_T32 x0_1 (ji10)).f0, (rd_T32 x0_1 (ji10)).f1, (rd_T32 x0_1 (ji10)).f2, (rd_T32 x0_1 (ji10)).f3, (rd_T32 x0_1 (ji10)).f4, (rd_T32 x0_1 (ji10)).f5, (rd_T32 x0_1 (ji10)).f6⟩ : S32)) a1 a2 a3 (wrap64 (x10_1 + 1))) = some r := by first | (rw [hy157]; with_reducible exact H) | (have H2_ := (Option.bind_some _ _).symm.trans H; rw [hy157]; with_reducible exact H2_) | (have H2_ := (Option.bind_some _ _).symm.trans H; with_reducible exact H2_) | with_reducible exact H | (rw [hy157]; exact H) | exact H
                have Ny157 := Aside0.mk hy157
                clear hy157
                obtain ⟨y158, hy158⟩ : ∃ y_ : List (S32), y_ = (y157.set ((ji7) : Int).toNat (⟨(rd_T32 x0_1 (ji10)).f0, (rd_T32 x0_1 (ji10)).f1, (rd_T32 x0_1 (ji10)).f2, (rd_T32 x0_1 (ji10)).f3, (rd_T32 x0_1 (ji10)).f4, (rd_T32 x0_1 (ji10)).f5, (rd_T32 x0_1 (ji10)).f6⟩ : S32)) := ⟨_, rfl⟩
                replace H : (api_Cmd_47.l0 k1 y158 a1 a2 a3 (wrap64 (x10_1 + 1))) = some r := by first | (rw [hy158]; with_reducible exact H) | (have H2_ := (Option.bind_some _ _).symm.trans H; rw [hy158]; with_reducible exact H2_) | (have H2_ := (Option.bind_some _ _).symm.trans H; with_reducible exact H2_) | with_reducible exact H | (rw [hy158]; exact H) | exact H
                have Ny158 := Aside0.mk hy158
                clear hy158
                have H' := Aside0.mk H
                clear H
                try go_wp2
                have n0_ := Aside0.mk (Kd.R_drew HO_0.out)
                have n1_ := Aside0.mk (Kept.drew HK.out)
                have n2_ := Aside0.mk (below_drew1 HB.out)
                clear HO_0
                clear HK
                clear HB
                have HO_0 := n0_
                have HK := n1_
                have HB := n2_
                clear n0_ n1_ n2_
                obtain ⟨Ao16, co16, eo16⟩ := Kd.R_slice HO_0.out
                (first | subst eo16 | (injection eo16 with f1_ f2_ f3_; have f4_ := f1_.symm; have f5_ := f3_.symm; clear f1_ f2_ f3_; subst f4_; subst f5_))
                have mixed : Try.prog.follows .mixedOrders = true := by first | rfl | kernel_rfl
                have pa_ : 0 ≤ ((ji10) : Int) := of_decide_eq_true (by first | (with_reducible assumption) | assumption)
                have qa_ : ((ji10) : Int) < (x0_1.length : Int) := of_decide_eq_true (by first | (with_reducible assumption) | assumption)
                have pb_ : 0 ≤ ((ji7) : Int) := of_decide_eq_true (by first | (with_reducible assumption) | assumption)
                have qb_ : ((ji7) : Int) < (x0_1.length : Int) := of_decide_eq_true (by first | (with_reducible assumption) | assumption)
                obtain ⟨go13, co13, eo13, gb13, gl13, cl13, HG13⟩ := Kd.R_form HO_0.out (by omega)
                (first | cases eo13 | (injection eo13 with ea_ en_ ec_; (first | subst ea_ | (injection ea_ with ea_; subst ea_)); subst ec_; clear en_))
                have GB13 := Aside0.mk gb13
                have HMgo13 := Aside0.mk (show (P0_ go13 ∨ w.heap.size ≤ go13) from (HO_0.out.1 _ rfl))
                clear gb13 gl13 HG13
                have aE : ∀ w, (isAgg 32).run Try.prog w = .ok true w := by intro w_; first | (go_simp; done) | (simp [isAgg, hu32]; done)
                have zE0 : ∀ w, (Go.sizeOf 32).run Try.prog w = .ok k32.sz w := by intro w_; first | (go_simp; rfl) | (simp [Go.sizeOf, hu32]; rfl)
                obtain ⟨k7_, hk7_⟩ : ∃ k, k = k32.sz := ⟨_, rfl⟩
                have zE : ∀ w, (Go.sizeOf 32).run Try.prog w = .ok k7_ w := by rw [hk7_]; exact zE0
                clear zE0 hu32
                obtain ⟨ca_, cb_, la_, lb_, ld1_, ld2_, st1_, st2_, HR_, HG_⟩ := Kd.R_swap HO_0.out z32 (ji10) (ji7) pa_ qa_ pb_ qb_
                rw [← hk7_] at la_ lb_ HR_ HG_
                replace ld1_ : Sem.run Try.prog (loadCellsFrom ⟨go13, ((ji10) : Int).toNat * k7_, none⟩ 0 k7_ #[]) wr.drew = .ok ca_.toArray wr.drew := by rw [hk7_]; exact ld1_ _
                replace ld2_ : Sem.run Try.prog (loadCellsFrom ⟨go13, ((ji7) : Int).toNat * k7_, none⟩ 0 k7_ #[]) wr.drew = .ok cb_.toArray wr.drew := by rw [hk7_]; exact ld2_ _
                replace st1_ : Sem.run Try.prog (storeCells ⟨go13, ((ji10) : Int).toNat * k7_, none⟩ cb_ 0) wr.drew = .ok () (wr.drew.setCells go13 (((ji10) : Int).toNat * k7_) cb_) := by rw [hk7_]; exact st1_ _
                replace st2_ : Sem.run Try.prog (storeCells ⟨go13, ((ji7) : Int).toNat * k7_, none⟩ ca_ 0) (wr.drew.setCells go13 (((ji10) : Int).toNat * k7_) cb_) = .ok () ((wr.drew.setCells go13 (((ji10) : Int).toNat * k7_) cb_).setCells go13 (((ji7) : Int).toNat * k7_) ca_) := by rw [hk7_]; exact st2_ _
                have ey_ : y158 = ((x0_1.set ((ji10) : Int).toNat (x0_1.getD ((ji7) : Int).toNat z32)).set ((ji7) : Int).toNat (x0_1.getD ((ji10) : Int).toNat z32)) := by rw [Ny158.out, Ny157.out]; rfl
                rw [← ey_] at HR_
                have HQ18 := Aside0.mk HR_
                have n1_ := Aside0.mk (Kept.of_grown HG_ HK.out (fun k_ he_ => by cases he_; exact HMgo13.out))
                have n2_ := Aside0.mk (HB.out.grown HG_ (Nat.le_trans (Nat.le_refl _) HB.out.size) (fun k_ he_ => by cases he_; exact GB13.out))
                clear HK HB HO_0
                have HK := n1_
                have HB := n2_
                clear n1_ n2_ HR_ HG_ hk7_ ey_
                replace pa_ := eq_true pa_
                replace qa_ := eq_true qa_
                replace pb_ := eq_true pb_
                replace qb_ := eq_true qb_
                go_big_region_o
                all_goals go_wp2
                have hu32 := Try.underlying32
                try go_wp2
                go_roundg k1
                case measure => have := HK1.out; omega
                case rel => exact ⟨(y158), (wrap64 (x10_1 + 1)), (by first | rfl | (simp; done) | (simp [*]; done)), H', ⟨by have := HK1.out; omega⟩, ⟨by (with_reducible repeat (first | apply Kd.R_alloc | apply Kd.R_drewN | apply Kd.R_drew)); exact HQ18.out⟩, ⟨by repeat (first | (with_reducible first | exact HK.out | apply Kept.alloc | apply Kept.drewN | apply Kept.drew | refine Kept.setCell ?_ HMgo13.out _ | refine Kept.setCell ?_ HMgo13.out _ | refine Kept.setCell ?_ HMgo13.out _ | refine Kept.setCell ?_ HMgo13.out _ | refine Kept.setCell ?_ HMgo13.out _ | refine Kept.setCell ?_ HMgo13.out _ | refine Kept.setCell ?_ HMgo13.out _ | refine Kept.setCell ?_ HMgo13.out _ | refine Kept.setCell ?_ HMgo13.out _ | refine Kept.setCell ?_ HMgo13.out _ | refine Kept.setCell ?_ HMgo13.out _ | refine Kept.setCell ?_ HMgo13.out _ | refine Kept.setCell ?_ HMgo13.out _ | refine Kept.setCell ?_ HMgo13.out _) | exact HK.out)⟩, ⟨by repeat (first | (with_reducible first | exact HB.out | apply below_alloc | apply pw_below_drewN | apply below_drew1 | refine below_set ?_ GB13.out | refine below_set ?_ GB13.out | refine below_set ?_ GB13.out | refine below_set ?_ GB13.out | refine below_set ?_ GB13.out | refine below_set ?_ GB13.out | refine below_set ?_ GB13.out | refine below_set ?_ GB13.out | refine below_set ?_ GB13.out | refine below_set ?_ GB13.out | refine below_set ?_ GB13.out | refine below_set ?_ GB13.out | refine below_set ?_ GB13.out | refine below_set ?_ GB13.out) | exact HB.out)⟩⟩
              · rw [if_neg c12] at H
                exact absurd H (by simp)
            · rw [if_neg c11] at H
              exact absurd H (by simp)
          · rw [if_neg c9] at H
            exact absurd H (by simp)
        · rw [if_neg c8] at H
          exact absurd H (by simp)
      · rw [if_neg c6] at H
        have c6b0 : decide (x10_1 < a3) = false := decide_eq_false c6
        clear c6
        obtain rfl := Option.some.inj H
        go_wp2
        first | go_end0 | ((try simp only [Exit.inBlock, Exit.then]); refine bodyPost_ret (results_none rfl _ _ _) rfl ?_)
        exact ⟨by first | rfl | (simp [errW_none, errW_some] <;> rfl) | (simp [*, errW_none, errW_some] <;> rfl), by (with_reducible repeat (first | apply Kd.R_alloc | apply Kd.R_drewN | apply Kd.R_drew)); exact HO_0.out, by repeat (first | (with_reducible first | exact HB.out | apply below_alloc | apply pw_below_drewN | apply below_drew1) | exact HB.out), by repeat (first | (with_reducible first | exact HK.out | apply Kept.alloc | apply Kept.drewN | apply Kept.drew) | exact HK.out)⟩

end Go.Proofs.Ytmlgklklikgafaa.PPredsTells
