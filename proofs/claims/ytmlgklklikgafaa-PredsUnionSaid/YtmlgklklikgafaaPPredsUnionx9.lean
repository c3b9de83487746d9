-- Written by a program of this session, which is the kit's print with hand-given functions (wip/tools/mkprint.py).
import Derived.Test.YtmlgklklikgafaaPPredsUnionx0
import Derived.Test.YtmlgklklikgafaaPPredsUnionx2
import Derived.Test.YtmlgklklikgafaaPPredsUnionx3
import Derived.Test.YtmlgklklikgafaaPPredsUnionx7
import Derived.Test.YtmlgklklikgafaaPPredsUnionx8
namespace Go.Proofs.Ytmlgklklikgafaa.PPredsUnion
open Go.RowKit Go.Proofs.YtmlgklklikgafaaW.PrintWords Go.Proofs.YtmlgklklikgafaaW.PrintLast Go.Proofs.YtmlgklklikgafaaW.PrintMore
attribute [local go_sem] max2_int min2_int max_two min_two max_three min_three max_four min_four   -- for this text's walks alone
set_option linter.unusedVariables false
set_option linter.unusedSimpArgs false

/-! ### lictorlaw03_PredsUnion: function 3 -/
mutual
def lictorlaw03_PredsUnion.j0 : Nat → List (S32) → List (S32) → Bool → Option (Bool)
  | 0, _, _, _ => none
  | k + 1, x0, x1, x26 => if x26 = true then ((lictorlaw03_alive.f k).bind fun t246 => (some t246)) else ((preds_Union.f k (([x0, x1] : List (List (S32))))).bind fun bt250 => ((preds_Union.f k (([x1, x0] : List (List (S32))))).bind fun bt257 => (if bt250.2 = bt257.2 then ((preds_Same.f k bt250.1 bt257.1).bind fun t261 => (lictorlaw03_PredsUnion.j1 k x0 x1 bt250.1 bt250.2 (!t261))) else (lictorlaw03_PredsUnion.j1 k x0 x1 bt250.1 bt250.2 true))))
def lictorlaw03_PredsUnion.j1 : Nat → List (S32) → List (S32) → List (S32) → Int → Bool → Option (Bool)
  | 0, _, _, _, _, _ => none
  | k + 1, x0, x1, x5, x6, x50 => if x50 = true then (none) else (if x6 = 0 then (lictorlaw03_PredsUnion.l0 k x0 x1 x5 0) else ((lictorlaw03_alive.f k).bind fun t262 => (if t262 = true then (some ((x5.length : Int) == 0)) else (none))))
def lictorlaw03_PredsUnion.l0 : Nat → List (S32) → List (S32) → List (S32) → Int → Option (Bool)
  | 0, _, _, _, _ => none
  | k + 1, x0, x1, x5, x9 => if x9 < (x0.length : Int) then (if 0 ≤ x9 then ((lictorlaw03_has.f k x5 ((rd_T32 x0 x9).f0) ((rd_T32 x0 x9).f1) ((rd_T32 x0 x9).f2) ((rd_T32 x0 x9).f3) ((rd_T32 x0 x9).f4) ((rd_T32 x0 x9).f5) ((rd_T32 x0 x9).f6)).bind fun t264 => (if t264 = true then (lictorlaw03_PredsUnion.l0 k x0 x1 x5 (wrap64 (x9 + 1))) else (none))) else (none)) else (lictorlaw03_PredsUnion.l1 k x0 x1 x5 0)
def lictorlaw03_PredsUnion.l1 : Nat → List (S32) → List (S32) → List (S32) → Int → Option (Bool)
  | 0, _, _, _, _ => none
  | k + 1, x0, x1, x5, x11 => if x11 < (x1.length : Int) then (if 0 ≤ x11 then ((lictorlaw03_has.f k x5 ((rd_T32 x1 x11).f0) ((rd_T32 x1 x11).f1) ((rd_T32 x1 x11).f2) ((rd_T32 x1 x11).f3) ((rd_T32 x1 x11).f4) ((rd_T32 x1 x11).f5) ((rd_T32 x1 x11).f6)).bind fun t266 => (if t266 = true then (lictorlaw03_PredsUnion.l1 k x0 x1 x5 (wrap64 (x11 + 1))) else (none))) else (none)) else (lictorlaw03_PredsUnion.l2 k x0 x1 x5 0)
def lictorlaw03_PredsUnion.l2 : Nat → List (S32) → List (S32) → List (S32) → Int → Option (Bool)
  | 0, _, _, _, _ => none
  | k + 1, x0, x1, x5, x13 => if x13 < (x5.length : Int) then (if 0 ≤ x13 then ((lictorlaw03_has.f k x0 ((rd_T32 x5 x13).f0) ((rd_T32 x5 x13).f1) ((rd_T32 x5 x13).f2) ((rd_T32 x5 x13).f3) ((rd_T32 x5 x13).f4) ((rd_T32 x5 x13).f5) ((rd_T32 x5 x13).f6)).bind fun t268 => ((lictorlaw03_has.f k x1 ((rd_T32 x5 x13).f0) ((rd_T32 x5 x13).f1) ((rd_T32 x5 x13).f2) ((rd_T32 x5 x13).f3) ((rd_T32 x5 x13).f4) ((rd_T32 x5 x13).f5) ((rd_T32 x5 x13).f6)).bind fun t270 => (if t268 = true then (lictorlaw03_PredsUnion.l2 k x0 x1 x5 (wrap64 (x13 + 1))) else (if t270 = true then (lictorlaw03_PredsUnion.l2 k x0 x1 x5 (wrap64 (x13 + 1))) else (none))))) else (none)) else ((preds_Minus.f k x5 x1).bind fun t271 => ((preds_Union.f k (([t271, x1] : List (List (S32))))).bind fun bt277 => ((lictorlaw03_alive.f k).bind fun t281 => (if t281 = true then ((preds_Right.f k x5).bind fun t282 => (if t282 = true then (if bt277.2 = 0 then ((preds_Same.f k bt277.1 x5).bind fun t283 => (some t283)) else (none)) else (none))) else (none)))))
end
def lictorlaw03_PredsUnion.f (k : Nat) (l0 : List (S32)) (l1 : List (S32)) : Option (Bool) := if (l0.length : Int) > 120 then (lictorlaw03_PredsUnion.j0 k l0 l1 true) else (lictorlaw03_PredsUnion.j0 k l0 l1 (decide ((l1.length : Int) > 120)))
theorem lictorlaw03_PredsUnion.mono_l : ∀ k, (∀ y0 y1 y2, LeO (lictorlaw03_PredsUnion.j0 k y0 y1 y2) (lictorlaw03_PredsUnion.j0 (k + 1) y0 y1 y2)) ∧ (∀ y0 y1 y2 y3 y4, LeO (lictorlaw03_PredsUnion.j1 k y0 y1 y2 y3 y4) (lictorlaw03_PredsUnion.j1 (k + 1) y0 y1 y2 y3 y4)) ∧ (∀ y0 y1 y2 y3, LeO (lictorlaw03_PredsUnion.l0 k y0 y1 y2 y3) (lictorlaw03_PredsUnion.l0 (k + 1) y0 y1 y2 y3)) ∧ (∀ y0 y1 y2 y3, LeO (lictorlaw03_PredsUnion.l1 k y0 y1 y2 y3) (lictorlaw03_PredsUnion.l1 (k + 1) y0 y1 y2 y3)) ∧ (∀ y0 y1 y2 y3, LeO (lictorlaw03_PredsUnion.l2 k y0 y1 y2 y3) (lictorlaw03_PredsUnion.l2 (k + 1) y0 y1 y2 y3))
  | 0 => ⟨fun _ _ _ r h => by simp [lictorlaw03_PredsUnion.j0] at h, fun _ _ _ _ _ r h => by simp [lictorlaw03_PredsUnion.j1] at h, fun _ _ _ _ r h => by simp [lictorlaw03_PredsUnion.l0] at h, fun _ _ _ _ r h => by simp [lictorlaw03_PredsUnion.l1] at h, fun _ _ _ _ r h => by simp [lictorlaw03_PredsUnion.l2] at h⟩
  | k + 1 => by
    obtain ⟨ih0, ih1, ih2, ih3, ih4⟩ := lictorlaw03_PredsUnion.mono_l k
    refine ⟨?_, ?_, ?_, ?_, ?_⟩
    · intro y0 y1 y2
      unfold lictorlaw03_PredsUnion.j0
      repeat' first
      | (with_reducible exact ih0 _ _ _)
      | (with_reducible exact ih1 _ _ _ _ _)
      | (with_reducible exact ih2 _ _ _ _)
      | (with_reducible exact ih3 _ _ _ _)
      | (with_reducible exact ih4 _ _ _ _)
      | (with_reducible exact lictorlaw03_alive.mono _)
      | (with_reducible exact lictorlaw03_has.mono _ _ _ _ _ _ _ _ _)
      | (with_reducible exact preds_Minus.mono _ _ _)
      | (with_reducible exact preds_Right.mono _ _)
      | (with_reducible exact preds_Same.mono _ _ _)
      | (with_reducible exact preds_Union.mono _ _)
      | (with_reducible exact LeO.refl _)
      | (with_reducible exact LeO.none _)
      | (with_reducible refine LeO.ite ?_ ?_)
      | (with_reducible refine LeO.bind ?_ (fun _ => ?_))
      | exact ih0 _ _ _
      | exact ih1 _ _ _ _ _
      | exact ih2 _ _ _ _
      | exact ih3 _ _ _ _
      | exact ih4 _ _ _ _
      | exact lictorlaw03_alive.mono _
      | exact lictorlaw03_has.mono _ _ _ _ _ _ _ _ _
      | exact preds_Minus.mono _ _ _
      | exact preds_Right.mono _ _
      | exact preds_Same.mono _ _ _
      | exact preds_Union.mono _ _
      | exact LeO.none _
      | refine LeO.ite ?_ ?_
      | refine LeO.bind ?_ (fun _ => ?_)
    · intro y0 y1 y2 y3 y4
      unfold lictorlaw03_PredsUnion.j1
      repeat' first
      | (with_reducible exact ih0 _ _ _)
      | (with_reducible exact ih1 _ _ _ _ _)
      | (with_reducible exact ih2 _ _ _ _)
      | (with_reducible exact ih3 _ _ _ _)
      | (with_reducible exact ih4 _ _ _ _)
      | (with_reducible exact lictorlaw03_alive.mono _)
      | (with_reducible exact lictorlaw03_has.mono _ _ _ _ _ _ _ _ _)
      | (with_reducible exact preds_Minus.mono _ _ _)
      | (with_reducible exact preds_Right.mono _ _)
      | (with_reducible exact preds_Same.mono _ _ _)
      | (with_reducible exact preds_Union.mono _ _)
      | (with_reducible exact LeO.refl _)
      | (with_reducible exact LeO.none _)
      | (with_reducible refine LeO.ite ?_ ?_)
      | (with_reducible refine LeO.bind ?_ (fun _ => ?_))
      | exact ih0 _ _ _
      | exact ih1 _ _ _ _ _
      | exact ih2 _ _ _ _
      | exact ih3 _ _ _ _
      | exact ih4 _ _ _ _
      | exact lictorlaw03_alive.mono _
      | exact lictorlaw03_has.mono _ _ _ _ _ _ _ _ _
      | exact preds_Minus.mono _ _ _
      | exact preds_Right.mono _ _
      | exact preds_Same.mono _ _ _
      | exact preds_Union.mono _ _
      | exact LeO.none _
      | refine LeO.ite ?_ ?_
      | refine LeO.bind ?_ (fun _ => ?_)
    · intro y0 y1 y2 y3
      unfold lictorlaw03_PredsUnion.l0
      repeat' first
      | (with_reducible exact ih0 _ _ _)
      | (with_reducible exact ih1 _ _ _ _ _)
      | (with_reducible exact ih2 _ _ _ _)
      | (with_reducible exact ih3 _ _ _ _)
      | (with_reducible exact ih4 _ _ _ _)
      | (with_reducible exact lictorlaw03_alive.mono _)
      | (with_reducible exact lictorlaw03_has.mono _ _ _ _ _ _ _ _ _)
      | (with_reducible exact preds_Minus.mono _ _ _)
      | (with_reducible exact preds_Right.mono _ _)
      | (with_reducible exact preds_Same.mono _ _ _)
      | (with_reducible exact preds_Union.mono _ _)
      | (with_reducible exact LeO.refl _)
      | (with_reducible exact LeO.none _)
      | (with_reducible refine LeO.ite ?_ ?_)
      | (with_reducible refine LeO.bind ?_ (fun _ => ?_))
      | exact ih0 _ _ _
      | exact ih1 _ _ _ _ _
      | exact ih2 _ _ _ _
      | exact ih3 _ _ _ _
      | exact ih4 _ _ _ _
      | exact lictorlaw03_alive.mono _
      | exact lictorlaw03_has.mono _ _ _ _ _ _ _ _ _
      | exact preds_Minus.mono _ _ _
      | exact preds_Right.mono _ _
      | exact preds_Same.mono _ _ _
      | exact preds_Union.mono _ _
      | exact LeO.none _
      | refine LeO.ite ?_ ?_
      | refine LeO.bind ?_ (fun _ => ?_)
    · intro y0 y1 y2 y3
      unfold lictorlaw03_PredsUnion.l1
      repeat' first
      | (with_reducible exact ih0 _ _ _)
      | (with_reducible exact ih1 _ _ _ _ _)
      | (with_reducible exact ih2 _ _ _ _)
      | (with_reducible exact ih3 _ _ _ _)
      | (with_reducible exact ih4 _ _ _ _)
      | (with_reducible exact lictorlaw03_alive.mono _)
      | (with_reducible exact lictorlaw03_has.mono _ _ _ _ _ _ _ _ _)
      | (with_reducible exact preds_Minus.mono _ _ _)
      | (with_reducible exact preds_Right.mono _ _)
      | (with_reducible exact preds_Same.mono _ _ _)
      | (with_reducible exact preds_Union.mono _ _)
      | (with_reducible exact LeO.refl _)
      | (with_reducible exact LeO.none _)
      | (with_reducible refine LeO.ite ?_ ?_)
      | (with_reducible refine LeO.bind ?_ (fun _ => ?_))
      | exact ih0 _ _ _
      | exact ih1 _ _ _ _ _
      | exact ih2 _ _ _ _
      | exact ih3 _ _ _ _
      | exact ih4 _ _ _ _
      | exact lictorlaw03_alive.mono _
      | exact lictorlaw03_has.mono _ _ _ _ _ _ _ _ _
      | exact preds_Minus.mono _ _ _
      | exact preds_Right.mono _ _
      | exact preds_Same.mono _ _ _
      | exact preds_Union.mono _ _
      | exact LeO.none _
      | refine LeO.ite ?_ ?_
      | refine LeO.bind ?_ (fun _ => ?_)
    · intro y0 y1 y2 y3
      unfold lictorlaw03_PredsUnion.l2
      repeat' first
      | (with_reducible exact ih0 _ _ _)
      | (with_reducible exact ih1 _ _ _ _ _)
      | (with_reducible exact ih2 _ _ _ _)
      | (with_reducible exact ih3 _ _ _ _)
      | (with_reducible exact ih4 _ _ _ _)
      | (with_reducible exact lictorlaw03_alive.mono _)
      | (with_reducible exact lictorlaw03_has.mono _ _ _ _ _ _ _ _ _)
      | (with_reducible exact preds_Minus.mono _ _ _)
      | (with_reducible exact preds_Right.mono _ _)
      | (with_reducible exact preds_Same.mono _ _ _)
      | (with_reducible exact preds_Union.mono _ _)
      | (with_reducible exact LeO.refl _)
      | (with_reducible exact LeO.none _)
      | (with_reducible refine LeO.ite ?_ ?_)
      | (with_reducible refine LeO.bind ?_ (fun _ => ?_))
      | exact ih0 _ _ _
      | exact ih1 _ _ _ _ _
      | exact ih2 _ _ _ _
      | exact ih3 _ _ _ _
      | exact ih4 _ _ _ _
      | exact lictorlaw03_alive.mono _
      | exact lictorlaw03_has.mono _ _ _ _ _ _ _ _ _
      | exact preds_Minus.mono _ _ _
      | exact preds_Right.mono _ _
      | exact preds_Same.mono _ _ _
      | exact preds_Union.mono _ _
      | exact LeO.none _
      | refine LeO.ite ?_ ?_
      | refine LeO.bind ?_ (fun _ => ?_)
theorem lictorlaw03_PredsUnion.mono : ∀ a0 a1 k, LeO (lictorlaw03_PredsUnion.f k a0 a1) (lictorlaw03_PredsUnion.f (k + 1) a0 a1) := by
  intro a0 a1 k
  obtain ⟨ih0, ih1, ih2, ih3, ih4⟩ := lictorlaw03_PredsUnion.mono_l k
  unfold lictorlaw03_PredsUnion.f
  repeat' first
      | (with_reducible exact ih0 _ _ _)
      | (with_reducible exact ih1 _ _ _ _ _)
      | (with_reducible exact ih2 _ _ _ _)
      | (with_reducible exact ih3 _ _ _ _)
      | (with_reducible exact ih4 _ _ _ _)
      | (with_reducible exact lictorlaw03_alive.mono _)
      | (with_reducible exact lictorlaw03_has.mono _ _ _ _ _ _ _ _ _)
      | (with_reducible exact preds_Minus.mono _ _ _)
      | (with_reducible exact preds_Right.mono _ _)
      | (with_reducible exact preds_Same.mono _ _ _)
      | (with_reducible exact preds_Union.mono _ _)
      | (with_reducible exact LeO.refl _)
      | (with_reducible exact LeO.none _)
      | (with_reducible refine LeO.ite ?_ ?_)
      | (with_reducible refine LeO.bind ?_ (fun _ => ?_))
      | exact ih0 _ _ _
      | exact ih1 _ _ _ _ _
      | exact ih2 _ _ _ _
      | exact ih3 _ _ _ _
      | exact ih4 _ _ _ _
      | exact lictorlaw03_alive.mono _
      | exact lictorlaw03_has.mono _ _ _ _ _ _ _ _ _
      | exact preds_Minus.mono _ _ _
      | exact preds_Right.mono _ _
      | exact preds_Same.mono _ _ _
      | exact preds_Union.mono _ _
      | exact LeO.none _
      | refine LeO.ite ?_ ?_
      | refine LeO.bind ?_ (fun _ => ?_)
set_option maxHeartbeats 8000000 in
set_option maxRecDepth 100000 in
theorem lictorlaw03_PredsUnion.calls (k : Nat) (P0_ : Nat → Prop) (A0 : Option Addr) (c0 : Nat) (l0 : List (S32)) (P1_ : Nat → Prop) (A1 : Option Addr) (c1 : Nat) (l1 : List (S32)) (r : Bool) (w : World) (hs0 : Kd.V k32 32 w w.heap.size (fun k_ => P0_ k_) (.slice A0 l0.length c0) l0) (hs1 : Kd.V k32 32 w w.heap.size (fun k_ => P1_ k_) (.slice A1 l1.length c1) l1) (h : lictorlaw03_PredsUnion.f k l0 l1 = some r) :
    Calls Try.prog 3 #[.slice A0 l0.length c0, .slice A1 l1.length c1] w fun e w' => e = .returned (.bool r) ∧ Below w.heap.size w w' := by
  have hu32 := Try.underlying32
  have HO0 := Aside0.mk (show Kd.V k32 32 w w.heap.size (fun k_ => ((P0_ k_ ∨ P1_ k_) ∨ w.heap.size ≤ k_)) (.slice A0 l0.length c0) l0 from Kd.V_mono hs0 (fun k_ hk => .inl (.inl hk)))
  have HO1 := Aside0.mk (show Kd.V k32 32 w w.heap.size (fun k_ => ((P0_ k_ ∨ P1_ k_) ∨ w.heap.size ≤ k_)) (.slice A1 l1.length c1) l1 from Kd.V_mono hs1 (fun k_ hk => .inl (.inr hk)))
  have HB := Aside0.mk (Below.refl w.heap.size w)
  have H : (if (l0.length : Int) > 120 then (lictorlaw03_PredsUnion.j0 k l0 l1 true) else (lictorlaw03_PredsUnion.j0 k l0 l1 (decide ((l1.length : Int) > 120)))) = some r := h
  clear h
  have HC3 := Aside0.mk H
  clear H
  go_enter Try.func3, Try.ntmps3
  go_upto_region 1 with (fail)
  go_cut [26] (fun v26 wc => ∃ (kq : Nat) (x26_2 : Bool), v26 = .bool x26_2 ∧ Aside0 (lictorlaw03_PredsUnion.j0 kq l0 l1 x26_2 = some r) ∧ Aside0 (kq ≤ k) ∧ Aside0 (Kd.V k32 32 wc w.heap.size (fun k_ => ((P0_ k_ ∨ P1_ k_) ∨ w.heap.size ≤ k_)) (.slice A0 l0.length c0) l0) ∧ Aside0 (Kd.V k32 32 wc w.heap.size (fun k_ => ((P0_ k_ ∨ P1_ k_) ∨ w.heap.size ≤ k_)) (.slice A1 l1.length c1) l1) ∧ Aside0 (Below w.heap.size w wc))
  case first =>
    have H := HC3.out
    clear HC3
    by_cases c4 : (l0.length : Int) > 120
    · rw [if_pos c4] at H
      have c4b0 : decide (120 < (l0.length : Int)) = true := decide_eq_true c4
      have c4b1 : decide (120 < l0.length) = true := decide_eq_true (by omega)
      clear c4
      (first | rw [c4b0] | (simp only [i64_w, i32_w]; rw [c4b0]) | skip)
      have H' := Aside0.mk H
      clear H
      go_wp2
      go_meet
      case rel => exact ⟨_, (true), (by first | rfl | (simp; done) | (simp [*]; done)), H', ⟨by first | omega | exact Nat.le_refl _⟩, ⟨by (with_reducible repeat (first | apply Kd.V_alloc | apply Kd.V_drewN | apply Kd.V_drew)); exact HO0.out⟩, ⟨by (with_reducible repeat (first | apply Kd.V_alloc | apply Kd.V_drewN | apply Kd.V_drew)); exact HO1.out⟩, ⟨by repeat (first | (with_reducible first | exact HB.out | apply below_alloc | apply pw_below_drewN | apply below_drew1) | exact HB.out)⟩⟩
    · rw [if_neg c4] at H
      have c4b0 : decide (120 < (l0.length : Int)) = false := decide_eq_false c4
      have c4b1 : decide (120 < l0.length) = false := decide_eq_false (by omega)
      clear c4
      (first | rw [c4b0] | (simp only [i64_w, i32_w]; rw [c4b0]) | skip)
      have H' := Aside0.mk H
      clear H
      go_wp2
      go_meet
      case rel => exact ⟨_, (decide ((l1.length : Int) > 120)), (by first | rfl | (simp; done) | (simp [*]; done)), H', ⟨by first | omega | exact Nat.le_refl _⟩, ⟨by (with_reducible repeat (first | apply Kd.V_alloc | apply Kd.V_drewN | apply Kd.V_drew)); exact HO0.out⟩, ⟨by (with_reducible repeat (first | apply Kd.V_alloc | apply Kd.V_drewN | apply Kd.V_drew)); exact HO1.out⟩, ⟨by repeat (first | (with_reducible first | exact HB.out | apply below_alloc | apply pw_below_drewN | apply below_drew1) | exact HB.out)⟩⟩
  case rest =>
    clear HC3
    try clear c1
    try clear p2
    try clear c3
    try clear c4
    try clear c4b0
    try clear c4b1
    obtain ⟨kq, x26_2, rfl, HA, HJ2, HO_0, HO_1, HB⟩ := hcut
    cases kq with
    | zero => exact absurd HA.out (by simp [lictorlaw03_PredsUnion.j0])
    | succ kj2 =>
      have H := HA.out
      clear HA
      simp only [lictorlaw03_PredsUnion.j0] at H
      by_cases c5 : x26_2 = true
      · subst c5
        have H1 : ((lictorlaw03_alive.f kj2).bind fun t246 => (some t246)) = some r := by rw [if_pos rfl] at H; exact H
        clear H
        have H := H1
        clear H1
        replace H := Option.bind_eq_some_iff.mp H
        obtain ⟨t246, A60, H⟩ := H
        replace H : (some t246) = some r := H
        have A6 := Aside0.mk A60
        clear A60
        obtain rfl := Option.some.inj H
        go_wp2_with (first | ((with_reducible refine gate_callee (f := 5) rfl ?_); refine goesL_ (some 27) rfl rfl Try.func5 (by kernel_rfl) rfl #[] rfl (by (try simp only [List.map_toArray, List.map_cons, List.map_nil]); first | done | rfl | (simp only [List.length_drop, List.length_take]; rfl)) ?_; (with_reducible refine (lictorlaw03_alive.calls kj2  t246 _ A6.out).mono ?_); rintro e w7 ⟨rfl, hb⟩; refine ⟨_, rfl, ?_⟩; have n0_ := Aside0.mk (Kd.V_below (by (with_reducible repeat (first | apply Kd.V_alloc | apply Kd.V_drewN | apply Kd.V_drew)); exact HO_0.out) hb); have n1_ := Aside0.mk (Kd.V_below (by (with_reducible repeat (first | apply Kd.V_alloc | apply Kd.V_drewN | apply Kd.V_drew)); exact HO_1.out) hb); have n2_ := Aside0.mk (below_step (by repeat (first | (with_reducible first | exact HB.out | apply below_alloc | apply pw_below_drewN | apply below_drew1) | exact HB.out)) hb); clear HO_0; clear HO_1; clear HB; have HO_0 := n0_; have HO_1 := n1_; have HB := n2_; clear n0_ n1_ n2_; (try clear hb); (try clear hb2); (try clear hk); (try clear hi)))
        go_ret
        exact ⟨by first | rfl | (simp [errW_none, errW_some] <;> rfl) | (simp [*, errW_none, errW_some] <;> rfl), by repeat (first | (with_reducible first | exact HB.out | apply below_alloc | apply pw_below_drewN | apply below_drew1) | exact HB.out)⟩
      · replace c5 := Bool.eq_false_iff.mpr c5
        subst c5
        have H1 : ((preds_Union.f kj2 (([l0, l1] : List (List (S32))))).bind fun bt250 => ((preds_Union.f kj2 (([l1, l0] : List (List (S32))))).bind fun bt257 => (if bt250.2 = bt257.2 then ((preds_Same.f kj2 bt250.1 bt257.1).bind fun t261 => (lictorlaw03_PredsUnion.j1 kj2 l0 l1 bt250.1 bt250.2 (!t261))) else (lictorlaw03_PredsUnion.j1 kj2 l0 l1 bt250.1 bt250.2 true)))) = some r := by rw [if_neg (show ¬ (false = true) by decide)] at H; exact H
        clear H
        have H := H1
        clear H1
        obtain ⟨y247, hy247⟩ : ∃ y_ : List (List (S32)), y_ = (([l0, l1] : List (List (S32)))) := ⟨_, rfl⟩
        replace H : ((preds_Union.f kj2 y247).bind fun bt250 => ((preds_Union.f kj2 (([l1, l0] : List (List (S32))))).bind fun bt257 => (if bt250.2 = bt257.2 then ((preds_Same.f kj2 bt250.1 bt257.1).bind fun t261 => (lictorlaw03_PredsUnion.j1 kj2 l0 l1 bt250.1 bt250.2 (!t261))) else (lictorlaw03_PredsUnion.j1 kj2 l0 l1 bt250.1 bt250.2 true)))) = some r := by first | (rw [hy247]; with_reducible exact H) | (have H2_ := (Option.bind_some _ _).symm.trans H; rw [hy247]; with_reducible exact H2_) | (have H2_ := (Option.bind_some _ _).symm.trans H; with_reducible exact H2_) | with_reducible exact H | (rw [hy247]; exact H) | exact H
        have Ny247 := Aside0.mk hy247
        clear hy247
        replace H := Option.bind_eq_some_iff.mp H
        obtain ⟨⟨t250, t251⟩, A80, H⟩ := H
        replace H : ((preds_Union.f kj2 (([l1, l0] : List (List (S32))))).bind fun bt257 => (if t251 = bt257.2 then ((preds_Same.f kj2 t250 bt257.1).bind fun t261 => (lictorlaw03_PredsUnion.j1 kj2 l0 l1 t250 t251 (!t261))) else (lictorlaw03_PredsUnion.j1 kj2 l0 l1 t250 t251 true))) = some r := H
        have A8 := Aside0.mk A80
        clear A80
        obtain ⟨y254, hy254⟩ : ∃ y_ : List (List (S32)), y_ = (([l1, l0] : List (List (S32)))) := ⟨_, rfl⟩
        replace H : ((preds_Union.f kj2 y254).bind fun bt257 => (if t251 = bt257.2 then ((preds_Same.f kj2 t250 bt257.1).bind fun t261 => (lictorlaw03_PredsUnion.j1 kj2 l0 l1 t250 t251 (!t261))) else (lictorlaw03_PredsUnion.j1 kj2 l0 l1 t250 t251 true))) = some r := by first | (rw [hy254]; with_reducible exact H) | (have H2_ := (Option.bind_some _ _).symm.trans H; rw [hy254]; with_reducible exact H2_) | (have H2_ := (Option.bind_some _ _).symm.trans H; with_reducible exact H2_) | with_reducible exact H | (rw [hy254]; exact H) | exact H
        have Ny254 := Aside0.mk hy254
        clear hy254
        replace H := Option.bind_eq_some_iff.mp H
        obtain ⟨⟨t257, t258⟩, A90, H⟩ := H
        replace H : (if t251 = t258 then ((preds_Same.f kj2 t250 t257).bind fun t261 => (lictorlaw03_PredsUnion.j1 kj2 l0 l1 t250 t251 (!t261))) else (lictorlaw03_PredsUnion.j1 kj2 l0 l1 t250 t251 true)) = some r := H
        have A9 := Aside0.mk A90
        clear A90
        have HC10 := Aside0.mk H
        clear H
        go_upto_region 5 with (first | ((with_reducible refine gate_dst (N := 31) rfl ?_); (try (refine gate_guard (by rfl) ?_; dsimp only)); refine Kd.N_lit (Kd.slice 32 k32) _ 22 ?hg (N' := 31) ?hd (xs := ([l0, l1] : List (List (S32)))) (inner := [.slice A0 l0.length c0, .slice A1 l1.length c1]) (ok := (fun k_ => ((P0_ k_ ∨ P1_ k_) ∨ w.heap.size ≤ k_))) (okp := (fun k_ => ((P0_ k_ ∨ P1_ k_) ∨ w.heap.size ≤ k_))) ?hr ?hp (fun _ hk => hk) ((show ∀ k_, wc.heap.size ≤ k_ → (fun k_ => ((P0_ k_ ∨ P1_ k_) ∨ w.heap.size ≤ k_)) k_ from fun k_ hk => (.inr (Nat.le_trans (below_size (by repeat (first | (with_reducible first | exact HB.out | apply below_alloc | apply pw_below_drewN | apply below_drew1) | exact HB.out))) hk))) _ (Nat.le_refl _)) (Below.refl _ _) (Nat.le_refl _) (by simp) ?_; (case hd => rfl); (case hg => rfl); (case hr => first | (go_simp; done) | (go_simp; rfl)); (case hp => exact (Reps.one (show Kd.FK (Kd.slice 32 k32) _ _ l0 [.slice A0 l0.length c0] from (Kd.FK_slice_mk (Kd.V_reads' (Kd.V_mono (ok' := (fun k_ => ((P0_ k_ ∨ P1_ k_) ∨ w.heap.size ≤ k_))) (HO_0.out) (fun k_ hk => hk))).2.1 (Kd.V_F (Kd.V_mono (ok' := (fun k_ => ((P0_ k_ ∨ P1_ k_) ∨ w.heap.size ≤ k_))) (HO_0.out) (fun k_ hk => hk))))) (Reps.one (show Kd.FK (Kd.slice 32 k32) _ _ l1 [.slice A1 l1.length c1] from (Kd.FK_slice_mk (Kd.V_reads' (Kd.V_mono (ok' := (fun k_ => ((P0_ k_ ∨ P1_ k_) ∨ w.heap.size ≤ k_))) (HO_1.out) (fun k_ hk => hk))).2.1 (Kd.V_F (Kd.V_mono (ok' := (fun k_ => ((P0_ k_ ∨ P1_ k_) ∨ w.heap.size ≤ k_))) (HO_1.out) (fun k_ hk => hk))))) (Reps.none _ _)))); intro v248 w11 ho12 hb hg_ hnew_; clear hg_ hnew_; (first | rw [← Ny247.out] at ho12 | (simp only [Int.reduceToNat] at ho12; rw [← Ny247.out] at ho12)); have n0_ := Aside0.mk (Kd.V_elder' (by (with_reducible repeat (first | apply Kd.V_alloc | apply Kd.V_drewN | apply Kd.V_drew)); exact HO_0.out) (Kd.N_base ho12) hb); have n1_ := Aside0.mk (Kd.V_elder' (by (with_reducible repeat (first | apply Kd.V_alloc | apply Kd.V_drewN | apply Kd.V_drew)); exact HO_1.out) (Kd.N_base ho12) hb); have n2_ := Aside0.mk (Kd.N_lower ho12 (below_size (by repeat (first | (with_reducible first | exact HB.out | apply below_alloc | apply pw_below_drewN | apply below_drew1) | exact HB.out)))); have n3_ := Aside0.mk (below_step (by repeat (first | (with_reducible first | exact HB.out | apply below_alloc | apply pw_below_drewN | apply below_drew1) | exact HB.out)) hb); clear HO_0; clear HO_1; clear HB; have HO_0 := n0_; have HO_1 := n1_; have HO249 := n2_; have HB := n3_; clear n0_ n1_ n2_ n3_; clear hb ho12; obtain ⟨Ao13, co13, eo13⟩ := Kd.N_slice HO249.out; subst eo13) | ((with_reducible refine gate_callee (f := 6) rfl ?_); refine goesL_ (some 32) rfl rfl Try.func6 (by kernel_rfl) rfl #[.slice Ao13 y247.length co13] rfl (by (try simp only [List.map_toArray, List.map_cons, List.map_nil]); first | done | rfl | (simp only [List.length_drop, List.length_take]; rfl)) ?_; (with_reducible refine (preds_Union.calls kj2 _ _ y247 t250 t251 _ ?side1 ?side2 A8.out).mono ?_); (case side1 => repeat (first | exact (Kd.N_reads' HO249.out).2.2 | (with_reducible refine Kd.C_alloc ?_ _) | (with_reducible refine Kd.C_drewN ?_ _) | (with_reducible refine Kd.C_drew ?_))); (case side2 => exact (Kd.N_reads' HO249.out).2.1); rintro e w14 ⟨v252, rfl, ho0, hb⟩; refine ⟨_, rfl, ?_⟩; have n0_ := Aside0.mk (Kd.V_elder' (by (with_reducible repeat (first | apply Kd.V_alloc | apply Kd.V_drewN | apply Kd.V_drew)); exact HO_0.out) (Kd.R_base ho0) hb); have n1_ := Aside0.mk (Kd.V_elder' (by (with_reducible repeat (first | apply Kd.V_alloc | apply Kd.V_drewN | apply Kd.V_drew)); exact HO_1.out) (Kd.R_base ho0) hb); have n2_ := Aside0.mk (Kd.N_elder' (by (with_reducible repeat (first | apply Kd.N_alloc | apply Kd.N_drewN | apply Kd.N_drew)); exact HO249.out) (Kd.R_base ho0) hb); have n3_ := Aside0.mk (Kd.R_lower (Kd.R_newM (M := fun k_ => (w.heap.size ≤ k_)) ho0 (below_size (by repeat (first | (with_reducible first | exact HB.out | apply below_alloc | apply pw_below_drewN | apply below_drew1) | exact HB.out))) (fun k_ h_ => h_)) (below_size (by repeat (first | (with_reducible first | exact HB.out | apply below_alloc | apply pw_below_drewN | apply below_drew1) | exact HB.out)))); have n4_ := Aside0.mk (below_step (by repeat (first | (with_reducible first | exact HB.out | apply below_alloc | apply pw_below_drewN | apply below_drew1) | exact HB.out)) hb); clear HO_0; clear HO_1; clear HO249; clear HB; have HO_0 := n0_; have HO_1 := n1_; have HO249 := n2_; have HO253 := n3_; have HB := n4_; clear n0_ n1_ n2_ n3_ n4_; (try clear hb); (try clear hb2); (try clear hk); (try clear hi); (try clear ho0)) | ((with_reducible refine gate_dst (N := 38) rfl ?_); (try (refine gate_guard (by rfl) ?_; dsimp only)); refine Kd.N_lit (Kd.slice 32 k32) _ 22 ?hg (N' := 38) ?hd (xs := ([l1, l0] : List (List (S32)))) (inner := [.slice A1 l1.length c1, .slice A0 l0.length c0]) (ok := (fun k_ => ((P0_ k_ ∨ P1_ k_) ∨ w.heap.size ≤ k_) ∧ some k_ ≠ (.slice Ao13 y247.length co13 : Value).ownBlock ∧ some k_ ≠ (v252 : Value).ownBlock)) (okp := (fun k_ => ((P0_ k_ ∨ P1_ k_) ∨ w.heap.size ≤ k_) ∧ some k_ ≠ (.slice Ao13 y247.length co13 : Value).ownBlock ∧ some k_ ≠ (v252 : Value).ownBlock)) ?hr ?hp (fun _ hk => hk) ((show ∀ k_, w14.heap.size ≤ k_ → (fun k_ => ((P0_ k_ ∨ P1_ k_) ∨ w.heap.size ≤ k_) ∧ some k_ ≠ (.slice Ao13 y247.length co13 : Value).ownBlock ∧ some k_ ≠ (v252 : Value).ownBlock) k_ from fun k_ hk => ⟨(.inr (Nat.le_trans (below_size (by repeat (first | (with_reducible first | exact HB.out | apply below_alloc | apply pw_below_drewN | apply below_drew1) | exact HB.out))) hk)), Kd.fresh' (Kd.N_lt (by (with_reducible repeat (first | apply Kd.N_alloc | apply Kd.N_drewN | apply Kd.N_drew)); exact HO249.out)) k_ hk, Kd.fresh' (Kd.R_lt (by (with_reducible repeat (first | apply Kd.R_alloc | apply Kd.R_drewN | apply Kd.R_drew)); exact HO253.out)) k_ hk⟩) _ (Nat.le_refl _)) (Below.refl _ _) (Nat.le_refl _) (by simp) ?_; (case hd => rfl); (case hg => rfl); (case hr => first | (go_simp; done) | (go_simp; rfl)); (case hp => exact (Reps.one (show Kd.FK (Kd.slice 32 k32) _ _ l1 [.slice A1 l1.length c1] from (Kd.FK_slice_mk (Kd.V_reads' (Kd.V_mono (ok' := (fun k_ => ((P0_ k_ ∨ P1_ k_) ∨ w.heap.size ≤ k_) ∧ some k_ ≠ (.slice Ao13 y247.length co13 : Value).ownBlock ∧ some k_ ≠ (v252 : Value).ownBlock)) (HO_1.out) (fun k_ hk => ⟨hk.1.1, ⟨hk.1.2, hk.2⟩⟩))).2.1 (Kd.V_F (Kd.V_mono (ok' := (fun k_ => ((P0_ k_ ∨ P1_ k_) ∨ w.heap.size ≤ k_) ∧ some k_ ≠ (.slice Ao13 y247.length co13 : Value).ownBlock ∧ some k_ ≠ (v252 : Value).ownBlock)) (HO_1.out) (fun k_ hk => ⟨hk.1.1, ⟨hk.1.2, hk.2⟩⟩))))) (Reps.one (show Kd.FK (Kd.slice 32 k32) _ _ l0 [.slice A0 l0.length c0] from (Kd.FK_slice_mk (Kd.V_reads' (Kd.V_mono (ok' := (fun k_ => ((P0_ k_ ∨ P1_ k_) ∨ w.heap.size ≤ k_) ∧ some k_ ≠ (.slice Ao13 y247.length co13 : Value).ownBlock ∧ some k_ ≠ (v252 : Value).ownBlock)) (HO_0.out) (fun k_ hk => ⟨hk.1.1, ⟨hk.1.2, hk.2⟩⟩))).2.1 (Kd.V_F (Kd.V_mono (ok' := (fun k_ => ((P0_ k_ ∨ P1_ k_) ∨ w.heap.size ≤ k_) ∧ some k_ ≠ (.slice Ao13 y247.length co13 : Value).ownBlock ∧ some k_ ≠ (v252 : Value).ownBlock)) (HO_0.out) (fun k_ hk => ⟨hk.1.1, ⟨hk.1.2, hk.2⟩⟩))))) (Reps.none _ _)))); intro v255 w15 ho16 hb hg_ hnew_; clear hg_ hnew_; (first | rw [← Ny254.out] at ho16 | (simp only [Int.reduceToNat] at ho16; rw [← Ny254.out] at ho16)); have n0_ := Aside0.mk (Kd.V_elder' (by (with_reducible repeat (first | apply Kd.V_alloc | apply Kd.V_drewN | apply Kd.V_drew)); exact HO_0.out) (Kd.N_base ho16) hb); have n1_ := Aside0.mk (Kd.V_elder' (by (with_reducible repeat (first | apply Kd.V_alloc | apply Kd.V_drewN | apply Kd.V_drew)); exact HO_1.out) (Kd.N_base ho16) hb); have n2_ := Aside0.mk (Kd.N_elder' (by (with_reducible repeat (first | apply Kd.N_alloc | apply Kd.N_drewN | apply Kd.N_drew)); exact HO249.out) (Kd.N_base ho16) hb); have n3_ := Aside0.mk (Kd.R_below (by (with_reducible repeat (first | apply Kd.R_alloc | apply Kd.R_drewN | apply Kd.R_drew)); exact HO253.out) hb); have n4_ := Aside0.mk (Kd.N_lower ho16 (below_size (by repeat (first | (with_reducible first | exact HB.out | apply below_alloc | apply pw_below_drewN | apply below_drew1) | exact HB.out)))); have n5_ := Aside0.mk (below_step (by repeat (first | (with_reducible first | exact HB.out | apply below_alloc | apply pw_below_drewN | apply below_drew1) | exact HB.out)) hb); clear HO_0; clear HO_1; clear HO249; clear HO253; clear HB; have HO_0 := n0_; have HO_1 := n1_; have HO249 := n2_; have HO253 := n3_; have HO256 := n4_; have HB := n5_; clear n0_ n1_ n2_ n3_ n4_ n5_; clear hb ho16; obtain ⟨Ao17, co17, eo17⟩ := Kd.N_slice HO256.out; subst eo17) | ((with_reducible refine gate_callee (f := 6) rfl ?_); refine goesL_ (some 39) rfl rfl Try.func6 (by kernel_rfl) rfl #[.slice Ao17 y254.length co17] rfl (by (try simp only [List.map_toArray, List.map_cons, List.map_nil]); first | done | rfl | (simp only [List.length_drop, List.length_take]; rfl)) ?_; (with_reducible refine (preds_Union.calls kj2 _ _ y254 t257 t258 _ ?side1 ?side2 A9.out).mono ?_); (case side1 => repeat (first | exact (Kd.N_reads' HO256.out).2.2 | (with_reducible refine Kd.C_alloc ?_ _) | (with_reducible refine Kd.C_drewN ?_ _) | (with_reducible refine Kd.C_drew ?_))); (case side2 => exact (Kd.N_reads' HO256.out).2.1); rintro e w18 ⟨v259, rfl, ho0, hb⟩; refine ⟨_, rfl, ?_⟩; have n0_ := Aside0.mk (Kd.V_elder' (by (with_reducible repeat (first | apply Kd.V_alloc | apply Kd.V_drewN | apply Kd.V_drew)); exact HO_0.out) (Kd.R_base ho0) hb); have n1_ := Aside0.mk (Kd.V_elder' (by (with_reducible repeat (first | apply Kd.V_alloc | apply Kd.V_drewN | apply Kd.V_drew)); exact HO_1.out) (Kd.R_base ho0) hb); have n2_ := Aside0.mk (Kd.N_elder' (by (with_reducible repeat (first | apply Kd.N_alloc | apply Kd.N_drewN | apply Kd.N_drew)); exact HO249.out) (Kd.R_base ho0) hb); have n3_ := Aside0.mk (Kd.R_elder' (by (with_reducible repeat (first | apply Kd.R_alloc | apply Kd.R_drewN | apply Kd.R_drew)); exact HO253.out) (Kd.R_base ho0) hb); have n4_ := Aside0.mk (Kd.N_elder' (by (with_reducible repeat (first | apply Kd.N_alloc | apply Kd.N_drewN | apply Kd.N_drew)); exact HO256.out) (Kd.R_base ho0) hb); have n5_ := Aside0.mk (Kd.R_lower (Kd.R_new' (Kd.R_newM (M := fun k_ => (w.heap.size ≤ k_)) ho0 (below_size (by repeat (first | (with_reducible first | exact HB.out | apply below_alloc | apply pw_below_drewN | apply below_drew1) | exact HB.out))) (fun k_ h_ => h_)) (Kd.R_lt (by (with_reducible repeat (first | apply Kd.R_alloc | apply Kd.R_drewN | apply Kd.R_drew)); exact HO253.out))) (below_size (by repeat (first | (with_reducible first | exact HB.out | apply below_alloc | apply pw_below_drewN | apply below_drew1) | exact HB.out)))); have n6_ := Aside0.mk (below_step (by repeat (first | (with_reducible first | exact HB.out | apply below_alloc | apply pw_below_drewN | apply below_drew1) | exact HB.out)) hb); clear HO_0; clear HO_1; clear HO249; clear HO253; clear HO256; clear HB; have HO_0 := n0_; have HO_1 := n1_; have HO249 := n2_; have HO253 := n3_; have HO256 := n4_; have HO260 := n5_; have HB := n6_; clear n0_ n1_ n2_ n3_ n4_ n5_ n6_; (try clear hb); (try clear hb2); (try clear hk); (try clear hi); (try clear ho0)))
        (try simp only [Act.put, List.setIfInBounds_toArray, List.set_cons_zero, List.set_cons_succ])
        go_cut [50] (fun v50 wc => ∃ (kq : Nat) (x50_9 : Bool), v50 = .bool x50_9 ∧ Aside0 (lictorlaw03_PredsUnion.j1 kq l0 l1 t250 t251 x50_9 = some r) ∧ Aside0 (kq ≤ kj2) ∧ Aside0 (Kd.V k32 32 wc w.heap.size (fun k_ => ((P0_ k_ ∨ P1_ k_) ∨ w.heap.size ≤ k_) ∧ some k_ ≠ (v252 : Value).ownBlock) (.slice A0 l0.length c0) l0) ∧ Aside0 (Kd.V k32 32 wc w.heap.size (fun k_ => ((P0_ k_ ∨ P1_ k_) ∨ w.heap.size ≤ k_) ∧ some k_ ≠ (v252 : Value).ownBlock) (.slice A1 l1.length c1) l1) ∧ Aside0 (Kd.R k32 32 wc w.heap.size (fun k_ => (w.heap.size ≤ k_)) v252 t250) ∧ Aside0 (Below w.heap.size w wc))
        case first =>
          have H := HC10.out
          clear HC10
          by_cases c19 : t251 = t258
          · rw [if_pos c19] at H
            have c19b0 : (t251 == t258) = true := beq_iff_eq.mpr c19
            have c19b1 : (t251 != t258) = false := bne_eq_false_iff_eq.mpr c19
            clear c19
            (first | rw [c19b0] | (simp only [i64_w, i32_w]; rw [c19b0]) | skip)
            replace H := Option.bind_eq_some_iff.mp H
            obtain ⟨t261, A200, H⟩ := H
            replace H : (lictorlaw03_PredsUnion.j1 kj2 l0 l1 t250 t251 (!t261)) = some r := H
            have A20 := Aside0.mk A200
            clear A200
            have H' := Aside0.mk H
            clear H
            obtain ⟨Ao21, co21, eo21⟩ := Kd.R_slice HO253.out
            subst eo21
            obtain ⟨Ao22, co22, eo22⟩ := Kd.R_slice HO260.out
            subst eo22
            go_wp2_with (first | (go_at_call 7; (with_reducible refine (preds_Same.calls kj2 _ _ t250 _ _ t257 t261 _ ?side1 ?side2 ?side3 ?side4 A20.out).mono ?_); (case side1 => repeat (first | exact (Kd.R_reads' HO253.out).2.2 | (with_reducible refine Kd.C_alloc ?_ _) | (with_reducible refine Kd.C_drewN ?_ _) | (with_reducible refine Kd.C_drew ?_))); (case side2 => exact (Kd.R_reads' HO253.out).2.1); (case side3 => repeat (first | exact (Kd.R_reads' HO260.out).2.2 | (with_reducible refine Kd.C_alloc ?_ _) | (with_reducible refine Kd.C_drewN ?_ _) | (with_reducible refine Kd.C_drew ?_))); (case side4 => exact (Kd.R_reads' HO260.out).2.1); rintro e w' ⟨rfl, ⟨nd, rfl⟩⟩))
            go_meet
            case rel => exact ⟨_, (!t261), (by first | rfl | (simp; done) | (simp [*]; done)), H', ⟨by have := HJ2.out; first | omega | exact Nat.le_refl _⟩, ⟨by (with_reducible repeat (first | apply Kd.V_alloc | apply Kd.V_drewN | apply Kd.V_drew)); exact Kd.V_mono HO_0.out (fun _ hk => ⟨hk.1.1.1.1, hk.1.1.2⟩)⟩, ⟨by (with_reducible repeat (first | apply Kd.V_alloc | apply Kd.V_drewN | apply Kd.V_drew)); exact Kd.V_mono HO_1.out (fun _ hk => ⟨hk.1.1.1.1, hk.1.1.2⟩)⟩, ⟨by (with_reducible repeat (first | apply Kd.R_alloc | apply Kd.R_drewN | apply Kd.R_drew)); exact Kd.R_mono HO253.out (fun _ hk => hk.1.1)⟩, ⟨by repeat (first | (with_reducible first | exact HB.out | apply below_alloc | apply pw_below_drewN | apply below_drew1) | exact HB.out)⟩⟩
          · rw [if_neg c19] at H
            have c19b0 : (t251 == t258) = false := beq_eq_false_iff_ne.mpr c19
            have c19b1 : (t251 != t258) = true := bne_iff_ne.mpr c19
            (first | rw [c19b0] | (simp only [i64_w, i32_w]; rw [c19b0]) | skip)
            have H' := Aside0.mk H
            clear H
            go_wp2
            go_meet
            case rel => exact ⟨_, (true), (by first | rfl | (simp; done) | (simp [*]; done)), H', ⟨by have := HJ2.out; first | omega | exact Nat.le_refl _⟩, ⟨by (with_reducible repeat (first | apply Kd.V_alloc | apply Kd.V_drewN | apply Kd.V_drew)); exact Kd.V_mono HO_0.out (fun _ hk => ⟨hk.1.1.1.1, hk.1.1.2⟩)⟩, ⟨by (with_reducible repeat (first | apply Kd.V_alloc | apply Kd.V_drewN | apply Kd.V_drew)); exact Kd.V_mono HO_1.out (fun _ hk => ⟨hk.1.1.1.1, hk.1.1.2⟩)⟩, ⟨by (with_reducible repeat (first | apply Kd.R_alloc | apply Kd.R_drewN | apply Kd.R_drew)); exact Kd.R_mono HO253.out (fun _ hk => hk.1.1)⟩, ⟨by repeat (first | (with_reducible first | exact HB.out | apply below_alloc | apply pw_below_drewN | apply below_drew1) | exact HB.out)⟩⟩
        case rest =>
          clear HC10
          try clear c1
          try clear p2
          try clear c3
          try clear c4
          try clear c4b0
          try clear c4b1
          try clear c5
          try clear c6
          try clear c19
          try clear c19b0
          try clear c19b1
          try clear p2
          obtain ⟨kq, x50_9, rfl, HA, HJ9, HO_0, HO_1, HO_5, HB⟩ := hcut
          cases kq with
          | zero => exact absurd HA.out (by simp [lictorlaw03_PredsUnion.j1])
          | succ kj9 =>
            have H := HA.out
            clear HA
            simp only [lictorlaw03_PredsUnion.j1] at H
            by_cases c23 : x50_9 = true
            · rw [if_pos c23] at H
              exact absurd H (by simp)
            · replace c23 := Bool.eq_false_iff.mpr c23
              subst c23
              have H1 : (if t251 = 0 then (lictorlaw03_PredsUnion.l0 kj9 l0 l1 t250 0) else ((lictorlaw03_alive.f kj9).bind fun t262 => (if t262 = true then (some ((t250.length : Int) == 0)) else (none)))) = some r := by rw [if_neg (show ¬ (false = true) by decide)] at H; exact H
              clear H
              have H := H1
              clear H1
              by_cases c24 : t251 = 0
              · rw [if_pos c24] at H
                have c24b0 : (t251 == 0) = true := beq_iff_eq.mpr c24
                have c24b1 : (t251 != 0) = false := bne_eq_false_iff_eq.mpr c24
                clear c24
                have H' := Aside0.mk H
                clear H
                go_wp2
                go_loopg [9] kj9 (fun kq v9 w' => ∃ (x9_3 : Int), v9 = .int .i64 x9_3 ∧ Aside0 (lictorlaw03_PredsUnion.l0 kq l0 l1 t250 x9_3 = some r) ∧ Aside0 (kq ≤ kj9) ∧ Aside0 (Kd.V k32 32 w' w.heap.size (fun k_ => ((P0_ k_ ∨ P1_ k_) ∨ w.heap.size ≤ k_) ∧ some k_ ≠ (v252 : Value).ownBlock) (.slice A0 l0.length c0) l0) ∧ Aside0 (Kd.V k32 32 w' w.heap.size (fun k_ => ((P0_ k_ ∨ P1_ k_) ∨ w.heap.size ≤ k_) ∧ some k_ ≠ (v252 : Value).ownBlock) (.slice A1 l1.length c1) l1) ∧ Aside0 (Kd.R k32 32 w' w.heap.size (fun k_ => (w.heap.size ≤ k_)) v252 t250) ∧ Aside0 (Below w.heap.size w w'))
                case atStart => exact ⟨(0), (by first | rfl | (simp; done) | (simp [*]; done)), H', ⟨Nat.le_refl _⟩, ⟨by (with_reducible repeat (first | apply Kd.V_alloc | apply Kd.V_drewN | apply Kd.V_drew)); exact HO_0.out⟩, ⟨by (with_reducible repeat (first | apply Kd.V_alloc | apply Kd.V_drewN | apply Kd.V_drew)); exact HO_1.out⟩, ⟨by (with_reducible repeat (first | apply Kd.R_alloc | apply Kd.R_drewN | apply Kd.R_drew)); exact HO_5.out⟩, ⟨by repeat (first | (with_reducible first | exact HB.out | apply below_alloc | apply pw_below_drewN | apply below_drew1) | exact HB.out)⟩⟩
                case round =>
                  clear H'
                  try clear c1
                  try clear c2
                  try clear p2
                  try clear c3
                  try clear c4
                  try clear c4b0
                  try clear c4b1
                  try clear c5
                  try clear c6
                  try clear c19
                  try clear c19b0
                  try clear c19b1
                  try clear c23
                  try clear c24
                  try clear c24b0
                  try clear c24b1
                  try clear p2
                  obtain ⟨x9_3, rfl, HA, HK3, HO_0, HO_1, HO_5, HB⟩ := hrel
                  cases gk with
                  | zero => exact absurd HA.out (by simp [lictorlaw03_PredsUnion.l0])
                  | succ k3 =>
                    have H := HA.out
                    clear HA
                    simp only [lictorlaw03_PredsUnion.l0] at H
                    by_cases c25 : x9_3 < (l0.length : Int)
                    · rw [if_pos c25] at H
                      have c25b0 : decide (x9_3 < (l0.length : Int)) = true := decide_eq_true c25
                      clear c25
                      by_cases c26 : 0 ≤ x9_3
                      · rw [if_pos c26] at H
                        have c26b0 : decide (0 ≤ x9_3) = true := decide_eq_true c26
                        clear c26
                        replace H := Option.bind_eq_some_iff.mp H
                        obtain ⟨t264, A270, H⟩ := H
                        replace H : (if t264 = true then (lictorlaw03_PredsUnion.l0 k3 l0 l1 t250 (wrap64 (x9_3 + 1))) else (none)) = some r := H
                        have A27 := Aside0.mk A270
                        clear A270
                        by_cases c28 : t264 = true
                        · subst c28
                          have H1 : (lictorlaw03_PredsUnion.l0 k3 l0 l1 t250 (wrap64 (x9_3 + 1))) = some r := by rw [if_pos rfl] at H; exact H
                          clear H
                          have H := H1
                          clear H1
                          have H' := Aside0.mk H
                          clear H
                          have p263 : 0 ≤ (x9_3 : Int) := of_decide_eq_true (by first | (with_reducible assumption) | assumption)
                          have q263 : x9_3 < (l0.length : Int) := of_decide_eq_true (by first | (with_reducible assumption) | assumption)
                          obtain ⟨ad263, e263, hx263_0, hx263_1, hx263_2, hx263_3, hx263_4, hx263_5, hx263_6⟩ := at_T32 (Kd.V_reads' HO_0.out).2.2 x9_3 p263 q263
                          cases e263
                          replace p263 := eq_true p263
                          replace q263 := eq_true q263
                          obtain ⟨Ao29, co29, eo29⟩ := Kd.R_slice HO_5.out
                          subst eo29
                          go_wp2_with (first | ((with_reducible refine gate_callee (f := 8) rfl ?_); refine goesL_ (some 70) rfl rfl Try.func8 (by kernel_rfl) rfl #[.slice Ao29 t250.length co29, .agg #[.int .i64 ((rd_T32 l0 x9_3).f0), .int .i64 ((rd_T32 l0 x9_3).f1), .int .i64 ((rd_T32 l0 x9_3).f2), .int .i64 ((rd_T32 l0 x9_3).f3), .int .i64 ((rd_T32 l0 x9_3).f4), .int .i64 ((rd_T32 l0 x9_3).f5), .int .i64 ((rd_T32 l0 x9_3).f6)]] rfl (by (try simp only [List.map_toArray, List.map_cons, List.map_nil]); first | done | rfl | (simp only [List.length_drop, List.length_take]; rfl)) ?_; (with_reducible refine (lictorlaw03_has.calls k3 _ _ t250 ((rd_T32 l0 x9_3).f0) ((rd_T32 l0 x9_3).f1) ((rd_T32 l0 x9_3).f2) ((rd_T32 l0 x9_3).f3) ((rd_T32 l0 x9_3).f4) ((rd_T32 l0 x9_3).f5) ((rd_T32 l0 x9_3).f6) true _ ?side1 ?side2 A27.out).mono ?_); (case side1 => repeat (first | exact (Kd.R_reads' HO_5.out).2.2 | (with_reducible refine Kd.C_alloc ?_ _) | (with_reducible refine Kd.C_drewN ?_ _) | (with_reducible refine Kd.C_drew ?_))); (case side2 => exact (Kd.R_reads' HO_5.out).2.1); rintro e w30 ⟨rfl, hb⟩; refine ⟨_, rfl, ?_⟩; have n0_ := Aside0.mk (Kd.V_below (by (with_reducible repeat (first | apply Kd.V_alloc | apply Kd.V_drewN | apply Kd.V_drew)); exact HO_0.out) hb); have n1_ := Aside0.mk (Kd.V_below (by (with_reducible repeat (first | apply Kd.V_alloc | apply Kd.V_drewN | apply Kd.V_drew)); exact HO_1.out) hb); have n2_ := Aside0.mk (Kd.R_below (by (with_reducible repeat (first | apply Kd.R_alloc | apply Kd.R_drewN | apply Kd.R_drew)); exact HO_5.out) hb); have n3_ := Aside0.mk (below_step (by repeat (first | (with_reducible first | exact HB.out | apply below_alloc | apply pw_below_drewN | apply below_drew1) | exact HB.out)) hb); clear HO_0; clear HO_1; clear HO_5; clear HB; have HO_0 := n0_; have HO_1 := n1_; have HO_5 := n2_; have HB := n3_; clear n0_ n1_ n2_ n3_; (try clear hb); (try clear hb2); (try clear hk); (try clear hi)))
                          go_roundg k3
                          case measure => have := HJ2.out; have := HJ9.out; have := HK3.out; omega
                          case rel => exact ⟨(wrap64 (x9_3 + 1)), (by first | rfl | (simp; done) | (simp [*]; done)), H', ⟨by have := HJ2.out; have := HJ9.out; have := HK3.out; omega⟩, ⟨by (with_reducible repeat (first | apply Kd.V_alloc | apply Kd.V_drewN | apply Kd.V_drew)); exact HO_0.out⟩, ⟨by (with_reducible repeat (first | apply Kd.V_alloc | apply Kd.V_drewN | apply Kd.V_drew)); exact HO_1.out⟩, ⟨by (with_reducible repeat (first | apply Kd.R_alloc | apply Kd.R_drewN | apply Kd.R_drew)); exact HO_5.out⟩, ⟨by repeat (first | (with_reducible first | exact HB.out | apply below_alloc | apply pw_below_drewN | apply below_drew1) | exact HB.out)⟩⟩
                        · rw [if_neg c28] at H
                          exact absurd H (by simp)
                      · rw [if_neg c26] at H
                        exact absurd H (by simp)
                    · rw [if_neg c25] at H
                      have c25b0 : decide (x9_3 < (l0.length : Int)) = false := decide_eq_false c25
                      clear c25
                      have H' := Aside0.mk H
                      clear H
                      go_wp2
                      go_loopg [11] k3 (fun kq v11 w' => ∃ (x11_4 : Int), v11 = .int .i64 x11_4 ∧ Aside0 (lictorlaw03_PredsUnion.l1 kq l0 l1 t250 x11_4 = some r) ∧ Aside0 (kq ≤ k3) ∧ Aside0 (Kd.V k32 32 w' w.heap.size (fun k_ => ((P0_ k_ ∨ P1_ k_) ∨ w.heap.size ≤ k_) ∧ some k_ ≠ (v252 : Value).ownBlock) (.slice A0 l0.length c0) l0) ∧ Aside0 (Kd.V k32 32 w' w.heap.size (fun k_ => ((P0_ k_ ∨ P1_ k_) ∨ w.heap.size ≤ k_) ∧ some k_ ≠ (v252 : Value).ownBlock) (.slice A1 l1.length c1) l1) ∧ Aside0 (Kd.R k32 32 w' w.heap.size (fun k_ => (w.heap.size ≤ k_)) v252 t250) ∧ Aside0 (Below w.heap.size w w'))
                      case atStart => exact ⟨(0), (by first | rfl | (simp; done) | (simp [*]; done)), H', ⟨Nat.le_refl _⟩, ⟨by (with_reducible repeat (first | apply Kd.V_alloc | apply Kd.V_drewN | apply Kd.V_drew)); exact HO_0.out⟩, ⟨by (with_reducible repeat (first | apply Kd.V_alloc | apply Kd.V_drewN | apply Kd.V_drew)); exact HO_1.out⟩, ⟨by (with_reducible repeat (first | apply Kd.R_alloc | apply Kd.R_drewN | apply Kd.R_drew)); exact HO_5.out⟩, ⟨by repeat (first | (with_reducible first | exact HB.out | apply below_alloc | apply pw_below_drewN | apply below_drew1) | exact HB.out)⟩⟩
                      case round =>
                        clear H'
                        try clear c1
                        try clear c2
                        try clear p2
                        try clear q2
                        try clear hx2
                        try clear c3
                        try clear c4
                        try clear c4b0
                        try clear c4b1
                        try clear c5
                        try clear c6
                        try clear p6
                        try clear c8
                        try clear c19
                        try clear c19b0
                        try clear c19b1
                        try clear c23
                        try clear c24
                        try clear c24b0
                        try clear c24b1
                        try clear c25
                        try clear c25b0
                        try clear c26
                        try clear c26b0
                        try clear p26
                        try clear q26
                        try clear hx26
                        try clear c28
                        try clear hx263_0
                        try clear hx263_1
                        try clear hx263_2
                        try clear hx263_3
                        try clear hx263_4
                        try clear hx263_5
                        try clear hx263_6
                        try clear p2
                        try clear p263
                        try clear q263
                        obtain ⟨x11_4, rfl, HA, HK4, HO_0, HO_1, HO_5, HB⟩ := hrel
                        cases gk with
                        | zero => exact absurd HA.out (by simp [lictorlaw03_PredsUnion.l1])
                        | succ k4 =>
                          have H := HA.out
                          clear HA
                          simp only [lictorlaw03_PredsUnion.l1] at H
                          by_cases c33 : x11_4 < (l1.length : Int)
                          · rw [if_pos c33] at H
                            have c33b0 : decide (x11_4 < (l1.length : Int)) = true := decide_eq_true c33
                            clear c33
                            by_cases c34 : 0 ≤ x11_4
                            · rw [if_pos c34] at H
                              have c34b0 : decide (0 ≤ x11_4) = true := decide_eq_true c34
                              clear c34
                              replace H := Option.bind_eq_some_iff.mp H
                              obtain ⟨t266, A350, H⟩ := H
                              replace H : (if t266 = true then (lictorlaw03_PredsUnion.l1 k4 l0 l1 t250 (wrap64 (x11_4 + 1))) else (none)) = some r := H
                              have A35 := Aside0.mk A350
                              clear A350
                              by_cases c36 : t266 = true
                              · subst c36
                                have H1 : (lictorlaw03_PredsUnion.l1 k4 l0 l1 t250 (wrap64 (x11_4 + 1))) = some r := by rw [if_pos rfl] at H; exact H
                                clear H
                                have H := H1
                                clear H1
                                have H' := Aside0.mk H
                                clear H
                                have p265 : 0 ≤ (x11_4 : Int) := of_decide_eq_true (by first | (with_reducible assumption) | assumption)
                                have q265 : x11_4 < (l1.length : Int) := of_decide_eq_true (by first | (with_reducible assumption) | assumption)
                                obtain ⟨ad265, e265, hx265_0, hx265_1, hx265_2, hx265_3, hx265_4, hx265_5, hx265_6⟩ := at_T32 (Kd.V_reads' HO_1.out).2.2 x11_4 p265 q265
                                cases e265
                                replace p265 := eq_true p265
                                replace q265 := eq_true q265
                                obtain ⟨Ao37, co37, eo37⟩ := Kd.R_slice HO_5.out
                                subst eo37
                                go_wp2_with (first | ((with_reducible refine gate_callee (f := 8) rfl ?_); refine goesL_ (some 84) rfl rfl Try.func8 (by kernel_rfl) rfl #[.slice Ao37 t250.length co37, .agg #[.int .i64 ((rd_T32 l1 x11_4).f0), .int .i64 ((rd_T32 l1 x11_4).f1), .int .i64 ((rd_T32 l1 x11_4).f2), .int .i64 ((rd_T32 l1 x11_4).f3), .int .i64 ((rd_T32 l1 x11_4).f4), .int .i64 ((rd_T32 l1 x11_4).f5), .int .i64 ((rd_T32 l1 x11_4).f6)]] rfl (by (try simp only [List.map_toArray, List.map_cons, List.map_nil]); first | done | rfl | (simp only [List.length_drop, List.length_take]; rfl)) ?_; (with_reducible refine (lictorlaw03_has.calls k4 _ _ t250 ((rd_T32 l1 x11_4).f0) ((rd_T32 l1 x11_4).f1) ((rd_T32 l1 x11_4).f2) ((rd_T32 l1 x11_4).f3) ((rd_T32 l1 x11_4).f4) ((rd_T32 l1 x11_4).f5) ((rd_T32 l1 x11_4).f6) true _ ?side1 ?side2 A35.out).mono ?_); (case side1 => repeat (first | exact (Kd.R_reads' HO_5.out).2.2 | (with_reducible refine Kd.C_alloc ?_ _) | (with_reducible refine Kd.C_drewN ?_ _) | (with_reducible refine Kd.C_drew ?_))); (case side2 => exact (Kd.R_reads' HO_5.out).2.1); rintro e w38 ⟨rfl, hb⟩; refine ⟨_, rfl, ?_⟩; have n0_ := Aside0.mk (Kd.V_below (by (with_reducible repeat (first | apply Kd.V_alloc | apply Kd.V_drewN | apply Kd.V_drew)); exact HO_0.out) hb); have n1_ := Aside0.mk (Kd.V_below (by (with_reducible repeat (first | apply Kd.V_alloc | apply Kd.V_drewN | apply Kd.V_drew)); exact HO_1.out) hb); have n2_ := Aside0.mk (Kd.R_below (by (with_reducible repeat (first | apply Kd.R_alloc | apply Kd.R_drewN | apply Kd.R_drew)); exact HO_5.out) hb); have n3_ := Aside0.mk (below_step (by repeat (first | (with_reducible first | exact HB.out | apply below_alloc | apply pw_below_drewN | apply below_drew1) | exact HB.out)) hb); clear HO_0; clear HO_1; clear HO_5; clear HB; have HO_0 := n0_; have HO_1 := n1_; have HO_5 := n2_; have HB := n3_; clear n0_ n1_ n2_ n3_; (try clear hb); (try clear hb2); (try clear hk); (try clear hi)))
                                go_roundg k4
                                case measure => have := HJ2.out; have := HJ9.out; have := HK3.out; have := HK4.out; omega
                                case rel => exact ⟨(wrap64 (x11_4 + 1)), (by first | rfl | (simp; done) | (simp [*]; done)), H', ⟨by have := HJ2.out; have := HJ9.out; have := HK3.out; have := HK4.out; omega⟩, ⟨by (with_reducible repeat (first | apply Kd.V_alloc | apply Kd.V_drewN | apply Kd.V_drew)); exact HO_0.out⟩, ⟨by (with_reducible repeat (first | apply Kd.V_alloc | apply Kd.V_drewN | apply Kd.V_drew)); exact HO_1.out⟩, ⟨by (with_reducible repeat (first | apply Kd.R_alloc | apply Kd.R_drewN | apply Kd.R_drew)); exact HO_5.out⟩, ⟨by repeat (first | (with_reducible first | exact HB.out | apply below_alloc | apply pw_below_drewN | apply below_drew1) | exact HB.out)⟩⟩
                              · rw [if_neg c36] at H
                                exact absurd H (by simp)
                            · rw [if_neg c34] at H
                              exact absurd H (by simp)
                          · rw [if_neg c33] at H
                            have c33b0 : decide (x11_4 < (l1.length : Int)) = false := decide_eq_false c33
                            clear c33
                            have H' := Aside0.mk H
                            clear H
                            go_wp2
                            go_loopg [13] k4 (fun kq v13 w' => ∃ (x13_5 : Int), v13 = .int .i64 x13_5 ∧ Aside0 (lictorlaw03_PredsUnion.l2 kq l0 l1 t250 x13_5 = some r) ∧ Aside0 (kq ≤ k4) ∧ Aside0 (Kd.V k32 32 w' w.heap.size (fun k_ => ((P0_ k_ ∨ P1_ k_) ∨ w.heap.size ≤ k_) ∧ some k_ ≠ (v252 : Value).ownBlock) (.slice A0 l0.length c0) l0) ∧ Aside0 (Kd.V k32 32 w' w.heap.size (fun k_ => ((P0_ k_ ∨ P1_ k_) ∨ w.heap.size ≤ k_) ∧ some k_ ≠ (v252 : Value).ownBlock) (.slice A1 l1.length c1) l1) ∧ Aside0 (Kd.R k32 32 w' w.heap.size (fun k_ => (w.heap.size ≤ k_)) v252 t250) ∧ Aside0 (Below w.heap.size w w'))
                            case atStart => exact ⟨(0), (by first | rfl | (simp; done) | (simp [*]; done)), H', ⟨Nat.le_refl _⟩, ⟨by (with_reducible repeat (first | apply Kd.V_alloc | apply Kd.V_drewN | apply Kd.V_drew)); exact HO_0.out⟩, ⟨by (with_reducible repeat (first | apply Kd.V_alloc | apply Kd.V_drewN | apply Kd.V_drew)); exact HO_1.out⟩, ⟨by (with_reducible repeat (first | apply Kd.R_alloc | apply Kd.R_drewN | apply Kd.R_drew)); exact HO_5.out⟩, ⟨by repeat (first | (with_reducible first | exact HB.out | apply below_alloc | apply pw_below_drewN | apply below_drew1) | exact HB.out)⟩⟩
                            case round =>
                              clear H'
                              try clear c1
                              try clear c2
                              try clear p2
                              try clear q2
                              try clear hx2
                              try clear c3
                              try clear c4
                              try clear c4b0
                              try clear c4b1
                              try clear c5
                              try clear c6
                              try clear p6
                              try clear c8
                              try clear c19
                              try clear c19b0
                              try clear c19b1
                              try clear c23
                              try clear c24
                              try clear c24b0
                              try clear c24b1
                              try clear c25
                              try clear c25b0
                              try clear c26
                              try clear c26b0
                              try clear p26
                              try clear q26
                              try clear hx26
                              try clear c28
                              try clear c33
                              try clear c33b0
                              try clear c34
                              try clear c34b0
                              try clear c36
                              try clear hx263_0
                              try clear hx263_1
                              try clear hx263_2
                              try clear hx263_3
                              try clear hx263_4
                              try clear hx263_5
                              try clear hx263_6
                              try clear hx265_0
                              try clear hx265_1
                              try clear hx265_2
                              try clear hx265_3
                              try clear hx265_4
                              try clear hx265_5
                              try clear hx265_6
                              try clear p2
                              try clear p26
                              try clear p263
                              try clear p265
                              try clear p6
                              try clear q2
                              try clear q26
                              try clear q263
                              try clear q265
                              obtain ⟨x13_5, rfl, HA, HK5, HO_0, HO_1, HO_5, HB⟩ := hrel
                              cases gk with
                              | zero => exact absurd HA.out (by simp [lictorlaw03_PredsUnion.l2])
                              | succ k5 =>
                                have H := HA.out
                                clear HA
                                simp only [lictorlaw03_PredsUnion.l2] at H
                                by_cases c41 : x13_5 < (t250.length : Int)
                                · rw [if_pos c41] at H
                                  have c41b0 : decide (x13_5 < (t250.length : Int)) = true := decide_eq_true c41
                                  clear c41
                                  by_cases c42 : 0 ≤ x13_5
                                  · rw [if_pos c42] at H
                                    have c42b0 : decide (0 ≤ x13_5) = true := decide_eq_true c42
                                    clear c42
                                    replace H := Option.bind_eq_some_iff.mp H
                                    obtain ⟨t268, A430, H⟩ := H
                                    replace H : ((lictorlaw03_has.f k5 l1 ((rd_T32 t250 x13_5).f0) ((rd_T32 t250 x13_5).f1) ((rd_T32 t250 x13_5).f2) ((rd_T32 t250 x13_5).f3) ((rd_T32 t250 x13_5).f4) ((rd_T32 t250 x13_5).f5) ((rd_T32 t250 x13_5).f6)).bind fun t270 => (if t268 = true then (lictorlaw03_PredsUnion.l2 k5 l0 l1 t250 (wrap64 (x13_5 + 1))) else (if t270 = true then (lictorlaw03_PredsUnion.l2 k5 l0 l1 t250 (wrap64 (x13_5 + 1))) else (none)))) = some r := H
                                    have A43 := Aside0.mk A430
                                    clear A430
                                    replace H := Option.bind_eq_some_iff.mp H
                                    obtain ⟨t270, A440, H⟩ := H
                                    replace H : (if t268 = true then (lictorlaw03_PredsUnion.l2 k5 l0 l1 t250 (wrap64 (x13_5 + 1))) else (if t270 = true then (lictorlaw03_PredsUnion.l2 k5 l0 l1 t250 (wrap64 (x13_5 + 1))) else (none))) = some r := H
                                    have A44 := Aside0.mk A440
                                    clear A440
                                    by_cases c45 : t268 = true
                                    · subst c45
                                      have H1 : (lictorlaw03_PredsUnion.l2 k5 l0 l1 t250 (wrap64 (x13_5 + 1))) = some r := by rw [if_pos rfl] at H; exact H
                                      clear H
                                      have H := H1
                                      clear H1
                                      have H' := Aside0.mk H
                                      clear H
                                      obtain ⟨Ao46, co46, eo46⟩ := Kd.R_slice HO_5.out
                                      subst eo46
                                      have p267 : 0 ≤ (x13_5 : Int) := of_decide_eq_true (by first | (with_reducible assumption) | assumption)
                                      have q267 : x13_5 < (t250.length : Int) := of_decide_eq_true (by first | (with_reducible assumption) | assumption)
                                      obtain ⟨ad267, e267, hx267_0, hx267_1, hx267_2, hx267_3, hx267_4, hx267_5, hx267_6⟩ := at_T32 (Kd.R_reads' HO_5.out).2.2 x13_5 p267 q267
                                      cases e267
                                      replace p267 := eq_true p267
                                      replace q267 := eq_true q267
                                      go_wp2_with (first | ((with_reducible refine gate_callee (f := 8) rfl ?_); refine goesL_ (some 98) rfl rfl Try.func8 (by kernel_rfl) rfl #[.slice A0 l0.length c0, .agg #[.int .i64 ((rd_T32 t250 x13_5).f0), .int .i64 ((rd_T32 t250 x13_5).f1), .int .i64 ((rd_T32 t250 x13_5).f2), .int .i64 ((rd_T32 t250 x13_5).f3), .int .i64 ((rd_T32 t250 x13_5).f4), .int .i64 ((rd_T32 t250 x13_5).f5), .int .i64 ((rd_T32 t250 x13_5).f6)]] rfl (by (try simp only [List.map_toArray, List.map_cons, List.map_nil]); first | done | rfl | (simp only [List.length_drop, List.length_take]; rfl)) ?_; (with_reducible refine (lictorlaw03_has.calls k5 _ _ l0 ((rd_T32 t250 x13_5).f0) ((rd_T32 t250 x13_5).f1) ((rd_T32 t250 x13_5).f2) ((rd_T32 t250 x13_5).f3) ((rd_T32 t250 x13_5).f4) ((rd_T32 t250 x13_5).f5) ((rd_T32 t250 x13_5).f6) true _ ?side1 ?side2 A43.out).mono ?_); (case side1 => repeat (first | exact (Kd.V_reads' HO_0.out).2.2 | (with_reducible refine Kd.C_alloc ?_ _) | (with_reducible refine Kd.C_drewN ?_ _) | (with_reducible refine Kd.C_drew ?_))); (case side2 => exact (Kd.V_reads' HO_0.out).2.1); rintro e w47 ⟨rfl, hb⟩; refine ⟨_, rfl, ?_⟩; have n0_ := Aside0.mk (Kd.V_below (by (with_reducible repeat (first | apply Kd.V_alloc | apply Kd.V_drewN | apply Kd.V_drew)); exact HO_0.out) hb); have n1_ := Aside0.mk (Kd.V_below (by (with_reducible repeat (first | apply Kd.V_alloc | apply Kd.V_drewN | apply Kd.V_drew)); exact HO_1.out) hb); have n2_ := Aside0.mk (Kd.R_below (by (with_reducible repeat (first | apply Kd.R_alloc | apply Kd.R_drewN | apply Kd.R_drew)); exact HO_5.out) hb); have n3_ := Aside0.mk (below_step (by repeat (first | (with_reducible first | exact HB.out | apply below_alloc | apply pw_below_drewN | apply below_drew1) | exact HB.out)) hb); clear HO_0; clear HO_1; clear HO_5; clear HB; have HO_0 := n0_; have HO_1 := n1_; have HO_5 := n2_; have HB := n3_; clear n0_ n1_ n2_ n3_; (try clear hb); (try clear hb2); (try clear hk); (try clear hi); have p269 : 0 ≤ (x13_5 : Int) := of_decide_eq_true (by first | (with_reducible assumption) | assumption); have q269 : x13_5 < (t250.length : Int) := of_decide_eq_true (by first | (with_reducible assumption) | assumption); obtain ⟨ad269, e269, hx269_0, hx269_1, hx269_2, hx269_3, hx269_4, hx269_5, hx269_6⟩ := at_T32 (Kd.R_reads' HO_5.out).2.2 x13_5 p269 q269; obtain rfl : ad267 = ad269 := (by injection e269); replace p269 := eq_true p269; replace q269 := eq_true q269) | ((with_reducible refine gate_callee (f := 8) rfl ?_); refine goesL_ (some 104) rfl rfl Try.func8 (by kernel_rfl) rfl #[.slice A1 l1.length c1, .agg #[.int .i64 ((rd_T32 t250 x13_5).f0), .int .i64 ((rd_T32 t250 x13_5).f1), .int .i64 ((rd_T32 t250 x13_5).f2), .int .i64 ((rd_T32 t250 x13_5).f3), .int .i64 ((rd_T32 t250 x13_5).f4), .int .i64 ((rd_T32 t250 x13_5).f5), .int .i64 ((rd_T32 t250 x13_5).f6)]] rfl (by (try simp only [List.map_toArray, List.map_cons, List.map_nil]); first | done | rfl | (simp only [List.length_drop, List.length_take]; rfl)) ?_; (with_reducible refine (lictorlaw03_has.calls k5 _ _ l1 ((rd_T32 t250 x13_5).f0) ((rd_T32 t250 x13_5).f1) ((rd_T32 t250 x13_5).f2) ((rd_T32 t250 x13_5).f3) ((rd_T32 t250 x13_5).f4) ((rd_T32 t250 x13_5).f5) ((rd_T32 t250 x13_5).f6) t270 _ ?side1 ?side2 A44.out).mono ?_); (case side1 => repeat (first | exact (Kd.V_reads' HO_1.out).2.2 | (with_reducible refine Kd.C_alloc ?_ _) | (with_reducible refine Kd.C_drewN ?_ _) | (with_reducible refine Kd.C_drew ?_))); (case side2 => exact (Kd.V_reads' HO_1.out).2.1); rintro e w48 ⟨rfl, hb⟩; refine ⟨_, rfl, ?_⟩; have n0_ := Aside0.mk (Kd.V_below (by (with_reducible repeat (first | apply Kd.V_alloc | apply Kd.V_drewN | apply Kd.V_drew)); exact HO_0.out) hb); have n1_ := Aside0.mk (Kd.V_below (by (with_reducible repeat (first | apply Kd.V_alloc | apply Kd.V_drewN | apply Kd.V_drew)); exact HO_1.out) hb); have n2_ := Aside0.mk (Kd.R_below (by (with_reducible repeat (first | apply Kd.R_alloc | apply Kd.R_drewN | apply Kd.R_drew)); exact HO_5.out) hb); have n3_ := Aside0.mk (below_step (by repeat (first | (with_reducible first | exact HB.out | apply below_alloc | apply pw_below_drewN | apply below_drew1) | exact HB.out)) hb); clear HO_0; clear HO_1; clear HO_5; clear HB; have HO_0 := n0_; have HO_1 := n1_; have HO_5 := n2_; have HB := n3_; clear n0_ n1_ n2_ n3_; (try clear hb); (try clear hb2); (try clear hk); (try clear hi)))
                                      go_roundg k5
                                      case measure => have := HJ2.out; have := HJ9.out; have := HK3.out; have := HK4.out; have := HK5.out; omega
                                      case rel => exact ⟨(wrap64 (x13_5 + 1)), (by first | rfl | (simp; done) | (simp [*]; done)), H', ⟨by have := HJ2.out; have := HJ9.out; have := HK3.out; have := HK4.out; have := HK5.out; omega⟩, ⟨by (with_reducible repeat (first | apply Kd.V_alloc | apply Kd.V_drewN | apply Kd.V_drew)); exact HO_0.out⟩, ⟨by (with_reducible repeat (first | apply Kd.V_alloc | apply Kd.V_drewN | apply Kd.V_drew)); exact HO_1.out⟩, ⟨by (with_reducible repeat (first | apply Kd.R_alloc | apply Kd.R_drewN | apply Kd.R_drew)); exact HO_5.out⟩, ⟨by repeat (first | (with_reducible first | exact HB.out | apply below_alloc | apply pw_below_drewN | apply below_drew1) | exact HB.out)⟩⟩
                                    · replace c45 := Bool.eq_false_iff.mpr c45
                                      subst c45
                                      have H1 : (if t270 = true then (lictorlaw03_PredsUnion.l2 k5 l0 l1 t250 (wrap64 (x13_5 + 1))) else (none)) = some r := by rw [if_neg (show ¬ (false = true) by decide)] at H; exact H
                                      clear H
                                      have H := H1
                                      clear H1
                                      by_cases c49 : t270 = true
                                      · subst c49
                                        have H1 : (lictorlaw03_PredsUnion.l2 k5 l0 l1 t250 (wrap64 (x13_5 + 1))) = some r := by rw [if_pos rfl] at H; exact H
                                        clear H
                                        have H := H1
                                        clear H1
                                        have H' := Aside0.mk H
                                        clear H
                                        obtain ⟨Ao50, co50, eo50⟩ := Kd.R_slice HO_5.out
                                        subst eo50
                                        have p267 : 0 ≤ (x13_5 : Int) := of_decide_eq_true (by first | (with_reducible assumption) | assumption)
                                        have q267 : x13_5 < (t250.length : Int) := of_decide_eq_true (by first | (with_reducible assumption) | assumption)
                                        obtain ⟨ad267, e267, hx267_0, hx267_1, hx267_2, hx267_3, hx267_4, hx267_5, hx267_6⟩ := at_T32 (Kd.R_reads' HO_5.out).2.2 x13_5 p267 q267
                                        cases e267
                                        replace p267 := eq_true p267
                                        replace q267 := eq_true q267
                                        go_wp2_with (first | ((with_reducible refine gate_callee (f := 8) rfl ?_); refine goesL_ (some 98) rfl rfl Try.func8 (by kernel_rfl) rfl #[.slice A0 l0.length c0, .agg #[.int .i64 ((rd_T32 t250 x13_5).f0), .int .i64 ((rd_T32 t250 x13_5).f1), .int .i64 ((rd_T32 t250 x13_5).f2), .int .i64 ((rd_T32 t250 x13_5).f3), .int .i64 ((rd_T32 t250 x13_5).f4), .int .i64 ((rd_T32 t250 x13_5).f5), .int .i64 ((rd_T32 t250 x13_5).f6)]] rfl (by (try simp only [List.map_toArray, List.map_cons, List.map_nil]); first | done | rfl | (simp only [List.length_drop, List.length_take]; rfl)) ?_; (with_reducible refine (lictorlaw03_has.calls k5 _ _ l0 ((rd_T32 t250 x13_5).f0) ((rd_T32 t250 x13_5).f1) ((rd_T32 t250 x13_5).f2) ((rd_T32 t250 x13_5).f3) ((rd_T32 t250 x13_5).f4) ((rd_T32 t250 x13_5).f5) ((rd_T32 t250 x13_5).f6) false _ ?side1 ?side2 A43.out).mono ?_); (case side1 => repeat (first | exact (Kd.V_reads' HO_0.out).2.2 | (with_reducible refine Kd.C_alloc ?_ _) | (with_reducible refine Kd.C_drewN ?_ _) | (with_reducible refine Kd.C_drew ?_))); (case side2 => exact (Kd.V_reads' HO_0.out).2.1); rintro e w51 ⟨rfl, hb⟩; refine ⟨_, rfl, ?_⟩; have n0_ := Aside0.mk (Kd.V_below (by (with_reducible repeat (first | apply Kd.V_alloc | apply Kd.V_drewN | apply Kd.V_drew)); exact HO_0.out) hb); have n1_ := Aside0.mk (Kd.V_below (by (with_reducible repeat (first | apply Kd.V_alloc | apply Kd.V_drewN | apply Kd.V_drew)); exact HO_1.out) hb); have n2_ := Aside0.mk (Kd.R_below (by (with_reducible repeat (first | apply Kd.R_alloc | apply Kd.R_drewN | apply Kd.R_drew)); exact HO_5.out) hb); have n3_ := Aside0.mk (below_step (by repeat (first | (with_reducible first | exact HB.out | apply below_alloc | apply pw_below_drewN | apply below_drew1) | exact HB.out)) hb); clear HO_0; clear HO_1; clear HO_5; clear HB; have HO_0 := n0_; have HO_1 := n1_; have HO_5 := n2_; have HB := n3_; clear n0_ n1_ n2_ n3_; (try clear hb); (try clear hb2); (try clear hk); (try clear hi); have p269 : 0 ≤ (x13_5 : Int) := of_decide_eq_true (by first | (with_reducible assumption) | assumption); have q269 : x13_5 < (t250.length : Int) := of_decide_eq_true (by first | (with_reducible assumption) | assumption); obtain ⟨ad269, e269, hx269_0, hx269_1, hx269_2, hx269_3, hx269_4, hx269_5, hx269_6⟩ := at_T32 (Kd.R_reads' HO_5.out).2.2 x13_5 p269 q269; obtain rfl : ad267 = ad269 := (by injection e269); replace p269 := eq_true p269; replace q269 := eq_true q269) | ((with_reducible refine gate_callee (f := 8) rfl ?_); refine goesL_ (some 104) rfl rfl Try.func8 (by kernel_rfl) rfl #[.slice A1 l1.length c1, .agg #[.int .i64 ((rd_T32 t250 x13_5).f0), .int .i64 ((rd_T32 t250 x13_5).f1), .int .i64 ((rd_T32 t250 x13_5).f2), .int .i64 ((rd_T32 t250 x13_5).f3), .int .i64 ((rd_T32 t250 x13_5).f4), .int .i64 ((rd_T32 t250 x13_5).f5), .int .i64 ((rd_T32 t250 x13_5).f6)]] rfl (by (try simp only [List.map_toArray, List.map_cons, List.map_nil]); first | done | rfl | (simp only [List.length_drop, List.length_take]; rfl)) ?_; (with_reducible refine (lictorlaw03_has.calls k5 _ _ l1 ((rd_T32 t250 x13_5).f0) ((rd_T32 t250 x13_5).f1) ((rd_T32 t250 x13_5).f2) ((rd_T32 t250 x13_5).f3) ((rd_T32 t250 x13_5).f4) ((rd_T32 t250 x13_5).f5) ((rd_T32 t250 x13_5).f6) true _ ?side1 ?side2 A44.out).mono ?_); (case side1 => repeat (first | exact (Kd.V_reads' HO_1.out).2.2 | (with_reducible refine Kd.C_alloc ?_ _) | (with_reducible refine Kd.C_drewN ?_ _) | (with_reducible refine Kd.C_drew ?_))); (case side2 => exact (Kd.V_reads' HO_1.out).2.1); rintro e w52 ⟨rfl, hb⟩; refine ⟨_, rfl, ?_⟩; have n0_ := Aside0.mk (Kd.V_below (by (with_reducible repeat (first | apply Kd.V_alloc | apply Kd.V_drewN | apply Kd.V_drew)); exact HO_0.out) hb); have n1_ := Aside0.mk (Kd.V_below (by (with_reducible repeat (first | apply Kd.V_alloc | apply Kd.V_drewN | apply Kd.V_drew)); exact HO_1.out) hb); have n2_ := Aside0.mk (Kd.R_below (by (with_reducible repeat (first | apply Kd.R_alloc | apply Kd.R_drewN | apply Kd.R_drew)); exact HO_5.out) hb); have n3_ := Aside0.mk (below_step (by repeat (first | (with_reducible first | exact HB.out | apply below_alloc | apply pw_below_drewN | apply below_drew1) | exact HB.out)) hb); clear HO_0; clear HO_1; clear HO_5; clear HB; have HO_0 := n0_; have HO_1 := n1_; have HO_5 := n2_; have HB := n3_; clear n0_ n1_ n2_ n3_; (try clear hb); (try clear hb2); (try clear hk); (try clear hi)))
                                        go_roundg k5
                                        case measure => have := HJ2.out; have := HJ9.out; have := HK3.out; have := HK4.out; have := HK5.out; omega
                                        case rel => exact ⟨(wrap64 (x13_5 + 1)), (by first | rfl | (simp; done) | (simp [*]; done)), H', ⟨by have := HJ2.out; have := HJ9.out; have := HK3.out; have := HK4.out; have := HK5.out; omega⟩, ⟨by (with_reducible repeat (first | apply Kd.V_alloc | apply Kd.V_drewN | apply Kd.V_drew)); exact HO_0.out⟩, ⟨by (with_reducible repeat (first | apply Kd.V_alloc | apply Kd.V_drewN | apply Kd.V_drew)); exact HO_1.out⟩, ⟨by (with_reducible repeat (first | apply Kd.R_alloc | apply Kd.R_drewN | apply Kd.R_drew)); exact HO_5.out⟩, ⟨by repeat (first | (with_reducible first | exact HB.out | apply below_alloc | apply pw_below_drewN | apply below_drew1) | exact HB.out)⟩⟩
                                      · rw [if_neg c49] at H
                                        exact absurd H (by simp)
                                  · rw [if_neg c42] at H
                                    exact absurd H (by simp)
                                · rw [if_neg c41] at H
                                  have c41b0 : decide (x13_5 < (t250.length : Int)) = false := decide_eq_false c41
                                  clear c41
                                  replace H := Option.bind_eq_some_iff.mp H
                                  obtain ⟨t271, A560, H⟩ := H
                                  replace H : ((preds_Union.f k5 (([t271, l1] : List (List (S32))))).bind fun bt277 => ((lictorlaw03_alive.f k5).bind fun t281 => (if t281 = true then ((preds_Right.f k5 t250).bind fun t282 => (if t282 = true then (if bt277.2 = 0 then ((preds_Same.f k5 bt277.1 t250).bind fun t283 => (some t283)) else (none)) else (none))) else (none)))) = some r := H
                                  have A56 := Aside0.mk A560
                                  clear A560
                                  obtain ⟨y274, hy274⟩ : ∃ y_ : List (List (S32)), y_ = (([t271, l1] : List (List (S32)))) := ⟨_, rfl⟩
                                  replace H : ((preds_Union.f k5 y274).bind fun bt277 => ((lictorlaw03_alive.f k5).bind fun t281 => (if t281 = true then ((preds_Right.f k5 t250).bind fun t282 => (if t282 = true then (if bt277.2 = 0 then ((preds_Same.f k5 bt277.1 t250).bind fun t283 => (some t283)) else (none)) else (none))) else (none)))) = some r := by first | (rw [hy274]; with_reducible exact H) | (have H2_ := (Option.bind_some _ _).symm.trans H; rw [hy274]; with_reducible exact H2_) | (have H2_ := (Option.bind_some _ _).symm.trans H; with_reducible exact H2_) | with_reducible exact H | (rw [hy274]; exact H) | exact H
                                  have Ny274 := Aside0.mk hy274
                                  clear hy274
                                  replace H := Option.bind_eq_some_iff.mp H
                                  obtain ⟨⟨t277, t278⟩, A570, H⟩ := H
                                  replace H : ((lictorlaw03_alive.f k5).bind fun t281 => (if t281 = true then ((preds_Right.f k5 t250).bind fun t282 => (if t282 = true then (if t278 = 0 then ((preds_Same.f k5 t277 t250).bind fun t283 => (some t283)) else (none)) else (none))) else (none))) = some r := H
                                  have A57 := Aside0.mk A570
                                  clear A570
                                  replace H := Option.bind_eq_some_iff.mp H
                                  obtain ⟨t281, A580, H⟩ := H
                                  replace H : (if t281 = true then ((preds_Right.f k5 t250).bind fun t282 => (if t282 = true then (if t278 = 0 then ((preds_Same.f k5 t277 t250).bind fun t283 => (some t283)) else (none)) else (none))) else (none)) = some r := H
                                  have A58 := Aside0.mk A580
                                  clear A580
                                  by_cases c59 : t281 = true
                                  · subst c59
                                    have H1 : ((preds_Right.f k5 t250).bind fun t282 => (if t282 = true then (if t278 = 0 then ((preds_Same.f k5 t277 t250).bind fun t283 => (some t283)) else (none)) else (none))) = some r := by rw [if_pos rfl] at H; exact H
                                    clear H
                                    have H := H1
                                    clear H1
                                    replace H := Option.bind_eq_some_iff.mp H
                                    obtain ⟨t282, A600, H⟩ := H
                                    replace H : (if t282 = true then (if t278 = 0 then ((preds_Same.f k5 t277 t250).bind fun t283 => (some t283)) else (none)) else (none)) = some r := H
                                    have A60 := Aside0.mk A600
                                    clear A600
                                    by_cases c61 : t282 = true
                                    · subst c61
                                      have H1 : (if t278 = 0 then ((preds_Same.f k5 t277 t250).bind fun t283 => (some t283)) else (none)) = some r := by rw [if_pos rfl] at H; exact H
                                      clear H
                                      have H := H1
                                      clear H1
                                      by_cases c62 : t278 = 0
                                      · rw [if_pos c62] at H
                                        have c62b0 : (t278 == 0) = true := beq_iff_eq.mpr c62
                                        have c62b1 : (t278 != 0) = false := bne_eq_false_iff_eq.mpr c62
                                        clear c62
                                        replace H := Option.bind_eq_some_iff.mp H
                                        obtain ⟨t283, A630, H⟩ := H
                                        replace H : (some t283) = some r := H
                                        have A63 := Aside0.mk A630
                                        clear A630
                                        obtain rfl := Option.some.inj H
                                        obtain ⟨Ao64, co64, eo64⟩ := Kd.R_slice HO_5.out
                                        subst eo64
                                        go_wp2_with (first | ((with_reducible refine gate_callee (f := 9) rfl ?_); refine goesL_ (some 113) rfl rfl Try.func9 (by kernel_rfl) rfl #[.slice Ao64 t250.length co64, .slice A1 l1.length c1] rfl (by (try simp only [List.map_toArray, List.map_cons, List.map_nil]); first | done | rfl | (simp only [List.length_drop, List.length_take]; rfl)) ?_; (with_reducible refine (preds_Minus.calls k5 _ _ t250 _ _ l1 t271 _ ?side1 ?side2 ?side3 ?side4 A56.out).mono ?_); (case side1 => repeat (first | exact (Kd.R_reads' HO_5.out).2.2 | (with_reducible refine Kd.C_alloc ?_ _) | (with_reducible refine Kd.C_drewN ?_ _) | (with_reducible refine Kd.C_drew ?_))); (case side2 => exact (Kd.R_reads' HO_5.out).2.1); (case side3 => repeat (first | exact (Kd.V_reads' HO_1.out).2.2 | (with_reducible refine Kd.C_alloc ?_ _) | (with_reducible refine Kd.C_drewN ?_ _) | (with_reducible refine Kd.C_drew ?_))); (case side4 => exact (Kd.V_reads' HO_1.out).2.1); rintro e w65 ⟨v272, rfl, ho0, hb⟩; refine ⟨_, rfl, ?_⟩; have n0_ := Aside0.mk (Kd.V_elder' (by (with_reducible repeat (first | apply Kd.V_alloc | apply Kd.V_drewN | apply Kd.V_drew)); exact HO_0.out) (Kd.R_base ho0) hb); have n1_ := Aside0.mk (Kd.V_elder' (by (with_reducible repeat (first | apply Kd.V_alloc | apply Kd.V_drewN | apply Kd.V_drew)); exact HO_1.out) (Kd.R_base ho0) hb); have n2_ := Aside0.mk (Kd.R_elder' (by (with_reducible repeat (first | apply Kd.R_alloc | apply Kd.R_drewN | apply Kd.R_drew)); exact HO_5.out) (Kd.R_base ho0) hb); have n3_ := Aside0.mk (Kd.R_lower (Kd.R_new' (Kd.R_newM (M := fun k_ => (w.heap.size ≤ k_)) ho0 (below_size (by repeat (first | (with_reducible first | exact HB.out | apply below_alloc | apply pw_below_drewN | apply below_drew1) | exact HB.out))) (fun k_ h_ => h_)) (Kd.R_lt (by (with_reducible repeat (first | apply Kd.R_alloc | apply Kd.R_drewN | apply Kd.R_drew)); exact HO_5.out))) (below_size (by repeat (first | (with_reducible first | exact HB.out | apply below_alloc | apply pw_below_drewN | apply below_drew1) | exact HB.out)))); have n4_ := Aside0.mk (below_step (by repeat (first | (with_reducible first | exact HB.out | apply below_alloc | apply pw_below_drewN | apply below_drew1) | exact HB.out)) hb); clear HO_0; clear HO_1; clear HO_5; clear HB; have HO_0 := n0_; have HO_1 := n1_; have HO_5 := n2_; have HO273 := n3_; have HB := n4_; clear n0_ n1_ n2_ n3_ n4_; (try clear hb); (try clear hb2); (try clear hk); (try clear hi); (try clear ho0); obtain ⟨Ao66, co66, eo66⟩ := Kd.R_slice HO273.out; subst eo66) | ((with_reducible refine gate_dst (N := 117) rfl ?_); (try (refine gate_guard (by rfl) ?_; dsimp only)); refine Kd.N_lit (Kd.slice 32 k32) _ 22 ?hg (N' := 117) ?hd (xs := ([t271, l1] : List (List (S32)))) (inner := [.slice Ao66 t271.length co66, .slice A1 l1.length c1]) (ok := (fun k_ => ((P0_ k_ ∨ P1_ k_) ∨ w.heap.size ≤ k_) ∧ some k_ ≠ (.slice Ao64 t250.length co64 : Value).ownBlock)) (okp := (fun k_ => ((P0_ k_ ∨ P1_ k_) ∨ w.heap.size ≤ k_) ∧ some k_ ≠ (.slice Ao64 t250.length co64 : Value).ownBlock)) ?hr ?hp (fun _ hk => hk) ((show ∀ k_, w65.heap.size ≤ k_ → (fun k_ => ((P0_ k_ ∨ P1_ k_) ∨ w.heap.size ≤ k_) ∧ some k_ ≠ (.slice Ao64 t250.length co64 : Value).ownBlock) k_ from fun k_ hk => ⟨(.inr (Nat.le_trans (below_size (by repeat (first | (with_reducible first | exact HB.out | apply below_alloc | apply pw_below_drewN | apply below_drew1) | exact HB.out))) hk)), Kd.fresh' (Kd.R_lt (by (with_reducible repeat (first | apply Kd.R_alloc | apply Kd.R_drewN | apply Kd.R_drew)); exact HO_5.out)) k_ hk⟩) _ (Nat.le_refl _)) (Below.refl _ _) (Nat.le_refl _) (by simp) ?_; (case hd => rfl); (case hg => rfl); (case hr => first | (go_simp; done) | (go_simp; rfl)); (case hp => exact (Reps.one (show Kd.FK (Kd.slice 32 k32) _ _ t271 [.slice Ao66 t271.length co66] from (Kd.FK_slice_mk (Kd.R_reads' (Kd.R_mono (ok' := (fun k_ => ((P0_ k_ ∨ P1_ k_) ∨ w.heap.size ≤ k_) ∧ some k_ ≠ (.slice Ao64 t250.length co64 : Value).ownBlock)) (HO273.out) (fun k_ hk => ⟨(.inr (hk.1.1)), hk.2⟩))).2.1 (Kd.R_F (Kd.R_mono (ok' := (fun k_ => ((P0_ k_ ∨ P1_ k_) ∨ w.heap.size ≤ k_) ∧ some k_ ≠ (.slice Ao64 t250.length co64 : Value).ownBlock)) (HO273.out) (fun k_ hk => ⟨(.inr (hk.1.1)), hk.2⟩))))) (Reps.one (show Kd.FK (Kd.slice 32 k32) _ _ l1 [.slice A1 l1.length c1] from (Kd.FK_slice_mk (Kd.V_reads' (Kd.V_mono (ok' := (fun k_ => ((P0_ k_ ∨ P1_ k_) ∨ w.heap.size ≤ k_) ∧ some k_ ≠ (.slice Ao64 t250.length co64 : Value).ownBlock)) (HO_1.out) (fun k_ hk => ⟨hk.1.1, hk.1.2⟩))).2.1 (Kd.V_F (Kd.V_mono (ok' := (fun k_ => ((P0_ k_ ∨ P1_ k_) ∨ w.heap.size ≤ k_) ∧ some k_ ≠ (.slice Ao64 t250.length co64 : Value).ownBlock)) (HO_1.out) (fun k_ hk => ⟨hk.1.1, hk.1.2⟩))))) (Reps.none _ _)))); intro v275 w67 ho68 hb hg_ hnew_; clear hg_ hnew_; (first | rw [← Ny274.out] at ho68 | (simp only [Int.reduceToNat] at ho68; rw [← Ny274.out] at ho68)); have n0_ := Aside0.mk (Kd.V_elder' (by (with_reducible repeat (first | apply Kd.V_alloc | apply Kd.V_drewN | apply Kd.V_drew)); exact HO_0.out) (Kd.N_base ho68) hb); have n1_ := Aside0.mk (Kd.V_elder' (by (with_reducible repeat (first | apply Kd.V_alloc | apply Kd.V_drewN | apply Kd.V_drew)); exact HO_1.out) (Kd.N_base ho68) hb); have n2_ := Aside0.mk (Kd.R_below (by (with_reducible repeat (first | apply Kd.R_alloc | apply Kd.R_drewN | apply Kd.R_drew)); exact HO_5.out) hb); have n3_ := Aside0.mk (Kd.N_lower ho68 (below_size (by repeat (first | (with_reducible first | exact HB.out | apply below_alloc | apply pw_below_drewN | apply below_drew1) | exact HB.out)))); have n4_ := Aside0.mk (below_step (by repeat (first | (with_reducible first | exact HB.out | apply below_alloc | apply pw_below_drewN | apply below_drew1) | exact HB.out)) hb); clear HO_0; clear HO_1; clear HO_5; clear HB; clear HO273; have HO_0 := n0_; have HO_1 := n1_; have HO_5 := n2_; have HO276 := n3_; have HB := n4_; clear n0_ n1_ n2_ n3_ n4_; clear hb ho68; obtain ⟨Ao69, co69, eo69⟩ := Kd.N_slice HO276.out; subst eo69) | ((with_reducible refine gate_callee (f := 6) rfl ?_); refine goesL_ (some 118) rfl rfl Try.func6 (by kernel_rfl) rfl #[.slice Ao69 y274.length co69] rfl (by (try simp only [List.map_toArray, List.map_cons, List.map_nil]); first | done | rfl | (simp only [List.length_drop, List.length_take]; rfl)) ?_; (with_reducible refine (preds_Union.calls k5 _ _ y274 t277 t278 _ ?side1 ?side2 A57.out).mono ?_); (case side1 => repeat (first | exact (Kd.N_reads' HO276.out).2.2 | (with_reducible refine Kd.C_alloc ?_ _) | (with_reducible refine Kd.C_drewN ?_ _) | (with_reducible refine Kd.C_drew ?_))); (case side2 => exact (Kd.N_reads' HO276.out).2.1); rintro e w70 ⟨v279, rfl, ho0, hb⟩; refine ⟨_, rfl, ?_⟩; have n0_ := Aside0.mk (Kd.V_elder' (by (with_reducible repeat (first | apply Kd.V_alloc | apply Kd.V_drewN | apply Kd.V_drew)); exact HO_0.out) (Kd.R_base ho0) hb); have n1_ := Aside0.mk (Kd.V_elder' (by (with_reducible repeat (first | apply Kd.V_alloc | apply Kd.V_drewN | apply Kd.V_drew)); exact HO_1.out) (Kd.R_base ho0) hb); have n2_ := Aside0.mk (Kd.R_elder' (by (with_reducible repeat (first | apply Kd.R_alloc | apply Kd.R_drewN | apply Kd.R_drew)); exact HO_5.out) (Kd.R_base ho0) hb); have n3_ := Aside0.mk (Kd.N_elder' (by (with_reducible repeat (first | apply Kd.N_alloc | apply Kd.N_drewN | apply Kd.N_drew)); exact HO276.out) (Kd.R_base ho0) hb); have n4_ := Aside0.mk (Kd.R_lower (Kd.R_new' (Kd.R_newM (M := fun k_ => (w.heap.size ≤ k_)) ho0 (below_size (by repeat (first | (with_reducible first | exact HB.out | apply below_alloc | apply pw_below_drewN | apply below_drew1) | exact HB.out))) (fun k_ h_ => h_)) (Kd.R_lt (by (with_reducible repeat (first | apply Kd.R_alloc | apply Kd.R_drewN | apply Kd.R_drew)); exact HO_5.out))) (below_size (by repeat (first | (with_reducible first | exact HB.out | apply below_alloc | apply pw_below_drewN | apply below_drew1) | exact HB.out)))); have n5_ := Aside0.mk (below_step (by repeat (first | (with_reducible first | exact HB.out | apply below_alloc | apply pw_below_drewN | apply below_drew1) | exact HB.out)) hb); clear HO_0; clear HO_1; clear HO_5; clear HO276; clear HB; have HO_0 := n0_; have HO_1 := n1_; have HO_5 := n2_; have HO276 := n3_; have HO280 := n4_; have HB := n5_; clear n0_ n1_ n2_ n3_ n4_ n5_; (try clear hb); (try clear hb2); (try clear hk); (try clear hi); (try clear ho0)) | ((with_reducible refine gate_callee (f := 5) rfl ?_); refine goesL_ (some 121) rfl rfl Try.func5 (by kernel_rfl) rfl #[] rfl (by (try simp only [List.map_toArray, List.map_cons, List.map_nil]); first | done | rfl | (simp only [List.length_drop, List.length_take]; rfl)) ?_; (with_reducible refine (lictorlaw03_alive.calls k5  true _ A58.out).mono ?_); rintro e w71 ⟨rfl, hb⟩; refine ⟨_, rfl, ?_⟩; have n0_ := Aside0.mk (Kd.V_below (by (with_reducible repeat (first | apply Kd.V_alloc | apply Kd.V_drewN | apply Kd.V_drew)); exact HO_0.out) hb); have n1_ := Aside0.mk (Kd.V_below (by (with_reducible repeat (first | apply Kd.V_alloc | apply Kd.V_drewN | apply Kd.V_drew)); exact HO_1.out) hb); have n2_ := Aside0.mk (Kd.R_below (by (with_reducible repeat (first | apply Kd.R_alloc | apply Kd.R_drewN | apply Kd.R_drew)); exact HO_5.out) hb); have n3_ := Aside0.mk (Kd.N_below (by (with_reducible repeat (first | apply Kd.N_alloc | apply Kd.N_drewN | apply Kd.N_drew)); exact HO276.out) hb); have n4_ := Aside0.mk (Kd.R_below (by (with_reducible repeat (first | apply Kd.R_alloc | apply Kd.R_drewN | apply Kd.R_drew)); exact HO280.out) hb); have n5_ := Aside0.mk (below_step (by repeat (first | (with_reducible first | exact HB.out | apply below_alloc | apply pw_below_drewN | apply below_drew1) | exact HB.out)) hb); clear HO_0; clear HO_1; clear HO_5; clear HO276; clear HO280; clear HB; have HO_0 := n0_; have HO_1 := n1_; have HO_5 := n2_; have HO276 := n3_; have HO280 := n4_; have HB := n5_; clear n0_ n1_ n2_ n3_ n4_ n5_; (try clear hb); (try clear hb2); (try clear hk); (try clear hi)) | (go_at_call 10; (with_reducible refine (preds_Right.calls k5 _ _ t250 true _ ?side1 ?side2 A60.out).mono ?_); (case side1 => repeat (first | exact (Kd.R_reads' HO_5.out).2.2 | (with_reducible refine Kd.C_alloc ?_ _) | (with_reducible refine Kd.C_drewN ?_ _) | (with_reducible refine Kd.C_drew ?_))); (case side2 => exact (Kd.R_reads' HO_5.out).2.1); rintro e w72 ⟨rfl, hb⟩; have n0_ := Aside0.mk (Kd.V_below (by (with_reducible repeat (first | apply Kd.V_alloc | apply Kd.V_drewN | apply Kd.V_drew)); exact HO_0.out) hb); have n1_ := Aside0.mk (Kd.V_below (by (with_reducible repeat (first | apply Kd.V_alloc | apply Kd.V_drewN | apply Kd.V_drew)); exact HO_1.out) hb); have n2_ := Aside0.mk (Kd.R_below (by (with_reducible repeat (first | apply Kd.R_alloc | apply Kd.R_drewN | apply Kd.R_drew)); exact HO_5.out) hb); have n3_ := Aside0.mk (Kd.N_below (by (with_reducible repeat (first | apply Kd.N_alloc | apply Kd.N_drewN | apply Kd.N_drew)); exact HO276.out) hb); have n4_ := Aside0.mk (Kd.R_below (by (with_reducible repeat (first | apply Kd.R_alloc | apply Kd.R_drewN | apply Kd.R_drew)); exact HO280.out) hb); have n5_ := Aside0.mk (below_step (by repeat (first | (with_reducible first | exact HB.out | apply below_alloc | apply pw_below_drewN | apply below_drew1) | exact HB.out)) hb); clear HO_0; clear HO_1; clear HO_5; clear HO276; clear HO280; clear HB; have HO_0 := n0_; have HO_1 := n1_; have HO_5 := n2_; have HO276 := n3_; have HO280 := n4_; have HB := n5_; clear n0_ n1_ n2_ n3_ n4_ n5_; (try clear hb); (try clear hb2); (try clear hk); (try clear hi); obtain ⟨Ao73, co73, eo73⟩ := Kd.R_slice HO280.out; subst eo73) | (go_at_call 7; (with_reducible refine (preds_Same.calls k5 _ _ t277 _ _ t250 t283 _ ?side1 ?side2 ?side3 ?side4 A63.out).mono ?_); (case side1 => repeat (first | exact (Kd.R_reads' HO280.out).2.2 | (with_reducible refine Kd.C_alloc ?_ _) | (with_reducible refine Kd.C_drewN ?_ _) | (with_reducible refine Kd.C_drew ?_))); (case side2 => exact (Kd.R_reads' HO280.out).2.1); (case side3 => repeat (first | exact (Kd.R_reads' HO_5.out).2.2 | (with_reducible refine Kd.C_alloc ?_ _) | (with_reducible refine Kd.C_drewN ?_ _) | (with_reducible refine Kd.C_drew ?_))); (case side4 => exact (Kd.R_reads' HO_5.out).2.1); rintro e w' ⟨rfl, ⟨nd, rfl⟩⟩))
                                        go_ret
                                        exact ⟨by first | rfl | (simp [errW_none, errW_some] <;> rfl) | (simp [*, errW_none, errW_some] <;> rfl), by repeat (first | (with_reducible first | exact HB.out | apply below_alloc | apply pw_below_drewN | apply below_drew1) | exact HB.out)⟩
                                      · rw [if_neg c62] at H
                                        exact absurd H (by simp)
                                    · rw [if_neg c61] at H
                                      exact absurd H (by simp)
                                  · rw [if_neg c59] at H
                                    exact absurd H (by simp)
              · rw [if_neg c24] at H
                have c24b0 : (t251 == 0) = false := beq_eq_false_iff_ne.mpr c24
                have c24b1 : (t251 != 0) = true := bne_iff_ne.mpr c24
                replace H := Option.bind_eq_some_iff.mp H
                obtain ⟨t262, A1000, H⟩ := H
                replace H : (if t262 = true then (some ((t250.length : Int) == 0)) else (none)) = some r := H
                have A100 := Aside0.mk A1000
                clear A1000
                by_cases c101 : t262 = true
                · subst c101
                  have H1 : (some ((t250.length : Int) == 0)) = some r := by rw [if_pos rfl] at H; exact H
                  clear H
                  have H := H1
                  clear H1
                  obtain rfl := Option.some.inj H
                  go_wp2_with (first | ((with_reducible refine gate_callee (f := 5) rfl ?_); refine goesL_ (some 53) rfl rfl Try.func5 (by kernel_rfl) rfl #[] rfl (by (try simp only [List.map_toArray, List.map_cons, List.map_nil]); first | done | rfl | (simp only [List.length_drop, List.length_take]; rfl)) ?_; (with_reducible refine (lictorlaw03_alive.calls kj9  true _ A100.out).mono ?_); rintro e w102 ⟨rfl, hb⟩; refine ⟨_, rfl, ?_⟩; have n0_ := Aside0.mk (Kd.V_below (by (with_reducible repeat (first | apply Kd.V_alloc | apply Kd.V_drewN | apply Kd.V_drew)); exact HO_0.out) hb); have n1_ := Aside0.mk (Kd.V_below (by (with_reducible repeat (first | apply Kd.V_alloc | apply Kd.V_drewN | apply Kd.V_drew)); exact HO_1.out) hb); have n2_ := Aside0.mk (Kd.R_below (by (with_reducible repeat (first | apply Kd.R_alloc | apply Kd.R_drewN | apply Kd.R_drew)); exact HO_5.out) hb); have n3_ := Aside0.mk (below_step (by repeat (first | (with_reducible first | exact HB.out | apply below_alloc | apply pw_below_drewN | apply below_drew1) | exact HB.out)) hb); clear HO_0; clear HO_1; clear HO_5; clear HB; have HO_0 := n0_; have HO_1 := n1_; have HO_5 := n2_; have HB := n3_; clear n0_ n1_ n2_ n3_; (try clear hb); (try clear hb2); (try clear hk); (try clear hi); obtain ⟨Ao103, co103, eo103⟩ := Kd.R_slice HO_5.out; subst eo103))
                  go_ret
                  exact ⟨by first | rfl | (simp [errW_none, errW_some] <;> rfl) | (simp [*, errW_none, errW_some] <;> rfl), by repeat (first | (with_reducible first | exact HB.out | apply below_alloc | apply pw_below_drewN | apply below_drew1) | exact HB.out)⟩
                · rw [if_neg c101] at H
                  exact absurd H (by simp)
/-- THE ONE PURE STATEMENT of lictorlaw03_PredsUnion. -/
def lictorlaw03_PredsUnion.Pure : Prop := ∀ (l0 : List (S32)) (l1 : List (S32)), (l0.length ≤ maxLen ∧ ∀ x0_ ∈ l0, gS32 x0_) → (l1.length ≤ maxLen ∧ ∀ x0_ ∈ l1, gS32 x0_) → ∃ k, lictorlaw03_PredsUnion.f k l0 l1 = some true

end Go.Proofs.Ytmlgklklikgafaa.PPredsUnion
