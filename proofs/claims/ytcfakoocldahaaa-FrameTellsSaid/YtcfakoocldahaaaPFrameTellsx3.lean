-- Written by a program of this session, which is the kit's print with hand-given functions (wip/tools/mkprint.py).
import Derived.Test.YtcfakoocldahaaaPFrameTellsx0
namespace Go.Proofs.Ytcfakoocldahaaa.PFrameTells
open Go.RowKit Go.Proofs.YtcfakoocldahaaaW.PrintWords Go.Proofs.YtcfakoocldahaaaW.PrintLast Go.Proofs.YtcfakoocldahaaaW.PrintMore
attribute [local go_sem] max2_int min2_int max_two min_two max_three min_three max_four min_four   -- for this text's walks alone
set_option linter.unusedVariables false
set_option linter.unusedSimpArgs false

/-! ### lictorref07_factors: function 14 -/
mutual
def lictorref07_factors.l0 : Nat → List Int → List Int → Int → Option (List Int)
  | 0, _, _, _ => none
  | k + 1, x0, x3, x4 => if x4 < (x0.length : Int) then (if 0 ≤ x4 then (lictorref07_factors.l1 k x0 x3 x4 (wrap64 (rd x0 x4)) 0) else (none)) else (lictorref07_factors.l2 k x3 0)
def lictorref07_factors.l1 : Nat → List Int → List Int → Int → Int → Int → Option (List Int)
  | 0, _, _, _, _, _ => none
  | k + 1, x0, x3, x4, x5, x6 => if x6 < 8 then (if x3.length < 17592186044416 then (lictorref07_factors.l1 k x0 (x3 ++ [Int.tmod x5 2]) x4 (wrap64 (Int.tdiv x5 2)) (wrap64 (x6 + 1))) else (none)) else (lictorref07_factors.l0 k x0 x3 (wrap64 (x4 + 1)))
def lictorref07_factors.l2 : Nat → List Int → Int → Option (List Int)
  | 0, _, _ => none
  | k + 1, x3, x7 => if x7 < 32 then (if x3.length < 17592186044416 then (lictorref07_factors.l2 k (x3 ++ [0]) (wrap64 (x7 + 1))) else (none)) else (lictorref07_factors.l3 k x3 0)
def lictorref07_factors.l3 : Nat → List Int → Int → Option (List Int)
  | 0, _, _ => none
  | k + 1, x3, x8 => if x8 < 32 then (if 0 ≤ x8 then (if x8 < (x3.length : Int) then (lictorref07_factors.l3 k (x3.set (x8 : Int).toNat (wrap64 (1 - (rd x3 x8)))) (wrap64 (x8 + 1))) else (none)) else (none)) else (some x3)
end
def lictorref07_factors.f (k : Nat) (l0 : List Int) : Option (List Int) := lictorref07_factors.l0 k l0 ([] : List Int) 0
theorem lictorref07_factors.mono_l : ∀ k, (∀ y0 y1 y2, LeO (lictorref07_factors.l0 k y0 y1 y2) (lictorref07_factors.l0 (k + 1) y0 y1 y2)) ∧ (∀ y0 y1 y2 y3 y4, LeO (lictorref07_factors.l1 k y0 y1 y2 y3 y4) (lictorref07_factors.l1 (k + 1) y0 y1 y2 y3 y4)) ∧ (∀ y0 y1, LeO (lictorref07_factors.l2 k y0 y1) (lictorref07_factors.l2 (k + 1) y0 y1)) ∧ (∀ y0 y1, LeO (lictorref07_factors.l3 k y0 y1) (lictorref07_factors.l3 (k + 1) y0 y1))
  | 0 => ⟨fun _ _ _ r h => by simp [lictorref07_factors.l0] at h, fun _ _ _ _ _ r h => by simp [lictorref07_factors.l1] at h, fun _ _ r h => by simp [lictorref07_factors.l2] at h, fun _ _ r h => by simp [lictorref07_factors.l3] at h⟩
  | k + 1 => by
    obtain ⟨ih0, ih1, ih2, ih3⟩ := lictorref07_factors.mono_l k
    refine ⟨?_, ?_, ?_, ?_⟩
    · intro y0 y1 y2
      unfold lictorref07_factors.l0
      repeat' first
      | (with_reducible exact ih0 _ _ _)
      | (with_reducible exact ih1 _ _ _ _ _)
      | (with_reducible exact ih2 _ _)
      | (with_reducible exact ih3 _ _)
      | (with_reducible exact LeO.refl _)
      | (with_reducible exact LeO.none _)
      | (with_reducible refine LeO.ite ?_ ?_)
      | (with_reducible refine LeO.bind ?_ (fun _ => ?_))
      | exact ih0 _ _ _
      | exact ih1 _ _ _ _ _
      | exact ih2 _ _
      | exact ih3 _ _
      | exact LeO.none _
      | refine LeO.ite ?_ ?_
      | refine LeO.bind ?_ (fun _ => ?_)
    · intro y0 y1 y2 y3 y4
      unfold lictorref07_factors.l1
      repeat' first
      | (with_reducible exact ih0 _ _ _)
      | (with_reducible exact ih1 _ _ _ _ _)
      | (with_reducible exact ih2 _ _)
      | (with_reducible exact ih3 _ _)
      | (with_reducible exact LeO.refl _)
      | (with_reducible exact LeO.none _)
      | (with_reducible refine LeO.ite ?_ ?_)
      | (with_reducible refine LeO.bind ?_ (fun _ => ?_))
      | exact ih0 _ _ _
      | exact ih1 _ _ _ _ _
      | exact ih2 _ _
      | exact ih3 _ _
      | exact LeO.none _
      | refine LeO.ite ?_ ?_
      | refine LeO.bind ?_ (fun _ => ?_)
    · intro y0 y1
      unfold lictorref07_factors.l2
      repeat' first
      | (with_reducible exact ih0 _ _ _)
      | (with_reducible exact ih1 _ _ _ _ _)
      | (with_reducible exact ih2 _ _)
      | (with_reducible exact ih3 _ _)
      | (with_reducible exact LeO.refl _)
      | (with_reducible exact LeO.none _)
      | (with_reducible refine LeO.ite ?_ ?_)
      | (with_reducible refine LeO.bind ?_ (fun _ => ?_))
      | exact ih0 _ _ _
      | exact ih1 _ _ _ _ _
      | exact ih2 _ _
      | exact ih3 _ _
      | exact LeO.none _
      | refine LeO.ite ?_ ?_
      | refine LeO.bind ?_ (fun _ => ?_)
    · intro y0 y1
      unfold lictorref07_factors.l3
      repeat' first
      | (with_reducible exact ih0 _ _ _)
      | (with_reducible exact ih1 _ _ _ _ _)
      | (with_reducible exact ih2 _ _)
      | (with_reducible exact ih3 _ _)
      | (with_reducible exact LeO.refl _)
      | (with_reducible exact LeO.none _)
      | (with_reducible refine LeO.ite ?_ ?_)
      | (with_reducible refine LeO.bind ?_ (fun _ => ?_))
      | exact ih0 _ _ _
      | exact ih1 _ _ _ _ _
      | exact ih2 _ _
      | exact ih3 _ _
      | exact LeO.none _
      | refine LeO.ite ?_ ?_
      | refine LeO.bind ?_ (fun _ => ?_)
theorem lictorref07_factors.mono : ∀ a0 k, LeO (lictorref07_factors.f k a0) (lictorref07_factors.f (k + 1) a0) := by
  intro a0 k
  obtain ⟨ih0, ih1, ih2, ih3⟩ := lictorref07_factors.mono_l k
  unfold lictorref07_factors.f
  repeat' first
      | (with_reducible exact ih0 _ _ _)
      | (with_reducible exact ih1 _ _ _ _ _)
      | (with_reducible exact ih2 _ _)
      | (with_reducible exact ih3 _ _)
      | (with_reducible exact LeO.refl _)
      | (with_reducible exact LeO.none _)
      | (with_reducible refine LeO.ite ?_ ?_)
      | (with_reducible refine LeO.bind ?_ (fun _ => ?_))
      | exact ih0 _ _ _
      | exact ih1 _ _ _ _ _
      | exact ih2 _ _
      | exact ih3 _ _
      | exact LeO.none _
      | refine LeO.ite ?_ ?_
      | refine LeO.bind ?_ (fun _ => ?_)
set_option maxHeartbeats 8000000 in
set_option maxRecDepth 100000 in
theorem lictorref07_factors.calls (k : Nat) (A0 : Option Addr) (c0 : Nat) (l0 : List Int) (r : List Int) (w : World) (hr0 : Kd.C (Kd.int .u8) w A0 l0.length l0) (hc0 : l0.length ≤ c0) (h : lictorref07_factors.f k l0 = some r) :
    Calls Try.prog 14 #[.slice A0 l0.length c0] w fun e w' => ∃ v0_ : Value, e = .returned (v0_) ∧ Kd.R (Kd.int .i64) 3 w' w.heap.size (fun _ => True) v0_ r ∧ Below w.heap.size w w' := by
  have HR0 := Aside0.mk hr0
  have HC0 := Aside0.mk hc0
  clear hr0 hc0
  have HB := Aside0.mk (Below.refl w.heap.size w)
  have H : (lictorref07_factors.l0 k l0 ([] : List Int) 0) = some r := h
  clear h
  have H' := Aside0.mk H
  clear H
  go_enter Try.func14, Try.ntmps14
  go_wp2
  go_loopg [3, 4] k (fun kq v3 v4 w' => ∃ (x3_1 : List Int) (x4_1 : Int), v4 = .int .i64 x4_1 ∧ Aside0 (lictorref07_factors.l0 kq l0 x3_1 x4_1 = some r) ∧ Aside0 (kq ≤ k) ∧ Aside0 (Kd.R (Kd.int .i64) 3 w' w.heap.size (fun _ => True) v3 x3_1) ∧ Aside0 (Below w.heap.size w w'))
  case atStart => exact ⟨(([] : List Int)), (0), (by first | rfl | (simp; done) | (simp [*]; done)), H', ⟨Nat.le_refl _⟩, ⟨by first | exact Kd.R_nil _ _ _ _ _ | exact Kd.N_nil _ _ _ _ _ | exact Kd.V_nil _ _ _ _ _ | exact Kd.Q_nil _ _ _ _ _ | exact Kd.S_nil _ _ _ _ _⟩, ⟨by repeat (first | (with_reducible first | exact HB.out | apply below_alloc | apply pw_below_drewN | apply below_drew1) | exact HB.out)⟩⟩
  case round =>
    clear H'
    try clear c1
    obtain ⟨x3_1, x4_1, rfl, HA, HK1, HO_3, HB⟩ := hrel
    cases gk with
    | zero => exact absurd HA.out (by simp [lictorref07_factors.l0])
    | succ k1 =>
      have H := HA.out
      clear HA
      simp only [lictorref07_factors.l0] at H
      by_cases c2 : x4_1 < (l0.length : Int)
      · rw [if_pos c2] at H
        have c2b0 : decide (x4_1 < (l0.length : Int)) = true := decide_eq_true c2
        clear c2
        by_cases c3 : 0 ≤ x4_1
        · rw [if_pos c3] at H
          have c3b0 : decide (0 ≤ x4_1) = true := decide_eq_true c3
          clear c3
          have H' := Aside0.mk H
          clear H
          have p134 : 0 ≤ (x4_1 : Int) := of_decide_eq_true (by first | (with_reducible assumption) | assumption)
          have q134 : x4_1 < (l0.length : Int) := of_decide_eq_true (by first | (with_reducible assumption) | assumption)
          obtain ⟨ad134, e134, hx134_0⟩ := Kd.at_int HR0.out x4_1 p134 q134
          cases e134
          replace hx134_0 := (HB.out.cell (World.block_lt_of_cell? w _ hx134_0)).trans hx134_0
          replace p134 := eq_true p134
          replace q134 := eq_true q134
          go_wp2
          go_loopg [3, 5, 6] k1 (fun kq v3 v5 v6 w' => ∃ (x3_2 : List Int) (x5_2 : Int) (x6_2 : Int), v5 = .int .i64 x5_2 ∧ v6 = .int .i64 x6_2 ∧ Aside0 (lictorref07_factors.l1 kq l0 x3_2 x4_1 x5_2 x6_2 = some r) ∧ Aside0 (kq ≤ k1) ∧ Aside0 (Kd.R (Kd.int .i64) 3 w' w.heap.size (fun _ => True) v3 x3_2) ∧ Aside0 (Below w.heap.size w w'))
          case atStart => exact ⟨(x3_1), (wrap64 (rd l0 x4_1)), (0), (by first | rfl | (simp; done) | (simp [*]; done)), (by first | rfl | (simp; done) | (simp [*]; done)), H', ⟨Nat.le_refl _⟩, ⟨by (with_reducible repeat (first | apply Kd.R_alloc | apply Kd.R_drewN | apply Kd.R_drew)); exact HO_3.out⟩, ⟨by repeat (first | (with_reducible first | exact HB.out | apply below_alloc | apply pw_below_drewN | apply below_drew1) | exact HB.out)⟩⟩
          case round =>
            clear H'
            try clear c1
            try clear p1
            try clear q1
            try clear hx1
            try clear c2
            try clear c2b0
            try clear p2
            try clear c3
            try clear c3b0
            try clear hx134_0
            try clear p134
            try clear q134
            obtain ⟨x3_2, x5_2, x6_2, rfl, rfl, HA, HK2, HO_3, HB⟩ := hrel
            cases gk with
            | zero => exact absurd HA.out (by simp [lictorref07_factors.l1])
            | succ k2 =>
              have H := HA.out
              clear HA
              simp only [lictorref07_factors.l1] at H
              by_cases c4 : x6_2 < 8
              · rw [if_pos c4] at H
                have c4b0 : decide (x6_2 < 8) = true := decide_eq_true c4
                clear c4
                by_cases c5 : x3_2.length < 17592186044416
                · rw [if_pos c5] at H
                  have LMc5 := Aside0.mk c5
                  clear c5
                  obtain ⟨y135, hy135⟩ : ∃ y_ : List Int, y_ = (x3_2 ++ [Int.tmod x5_2 2]) := ⟨_, rfl⟩
                  replace H : (lictorref07_factors.l1 k2 l0 y135 x4_1 (wrap64 (Int.tdiv x5_2 2)) (wrap64 (x6_2 + 1))) = some r := by first | (rw [hy135]; with_reducible exact H) | (have H2_ := (Option.bind_some _ _).symm.trans H; rw [hy135]; with_reducible exact H2_) | (have H2_ := (Option.bind_some _ _).symm.trans H; with_reducible exact H2_) | with_reducible exact H | (rw [hy135]; exact H) | exact H
                  have Ny135 := Aside0.mk hy135
                  clear hy135
                  have H' := Aside0.mk H
                  clear H
                  go_wp2_with (first | ((with_reducible refine gate_builtin (b := .append) (xs := #[.tmp 24, .tmp 27]) rfl ?_); at_builtin; refine Kd.R_append (Kd.int .i64) (w0 := w) w.heap.size rfl (.tmp 24) (.tmp 27) 39 3 (.int .i64 0) 8 rfl Try.underlying39 info3 rfl (by decide) (by omega) u3 x3_2 (Int.tmod x5_2 2) [.int .i64 (Int.tmod x5_2 2)] (fun _ => True) (fun _ => False) rfl rfl ?aP (fun _ hk => hk.elim) ?aF ?aO ?aB ?aS ?aL ?_; (case aP => exact rfl); (case aB => exact (by repeat (first | (with_reducible first | exact HB.out | apply below_alloc | apply pw_below_drewN | apply below_drew1) | exact HB.out))); (case aF => exact (fun _ _ => trivial)); (case aO => exact (by (with_reducible repeat (first | apply Kd.R_alloc | apply Kd.R_drewN | apply Kd.R_drew)); exact HO_3.out)); (case aS => exact (below_size (by repeat (first | (with_reducible first | exact HB.out | apply below_alloc | apply pw_below_drewN | apply below_drew1) | exact HB.out)))); (case aL => have := LMc5.out; omega); intro v136 w6 ho hb hg hat; rw [← Ny135.out] at ho; have n0_ := Aside0.mk (hb); have n1_ := Aside0.mk (ho); clear HB; clear HO_3; have HB := n0_; have HO137 := n1_; clear n0_ n1_; clear ho hb hg hat))
                  go_roundg k2
                  case measure => have := HK1.out; have := HK2.out; omega
                  case rel => exact ⟨(y135), (wrap64 (Int.tdiv x5_2 2)), (wrap64 (x6_2 + 1)), (by first | rfl | (simp; done) | (simp [*]; done)), (by first | rfl | (simp; done) | (simp [*]; done)), H', ⟨by have := HK1.out; have := HK2.out; omega⟩, ⟨by (with_reducible repeat (first | apply Kd.R_alloc | apply Kd.R_drewN | apply Kd.R_drew)); exact HO137.out⟩, ⟨by repeat (first | (with_reducible first | exact HB.out | apply below_alloc | apply pw_below_drewN | apply below_drew1) | exact HB.out)⟩⟩
                · rw [if_neg c5] at H
                  exact absurd H (by simp)
              · rw [if_neg c4] at H
                have c4b0 : decide (x6_2 < 8) = false := decide_eq_false c4
                clear c4
                have H' := Aside0.mk H
                clear H
                go_wp2
                go_roundg k2
                case measure => have := HK1.out; have := HK2.out; omega
                case rel => exact ⟨(x3_2), (wrap64 (x4_1 + 1)), (by first | rfl | (simp; done) | (simp [*]; done)), H', ⟨by have := HK1.out; have := HK2.out; omega⟩, ⟨by (with_reducible repeat (first | apply Kd.R_alloc | apply Kd.R_drewN | apply Kd.R_drew)); exact HO_3.out⟩, ⟨by repeat (first | (with_reducible first | exact HB.out | apply below_alloc | apply pw_below_drewN | apply below_drew1) | exact HB.out)⟩⟩
        · rw [if_neg c3] at H
          exact absurd H (by simp)
      · rw [if_neg c2] at H
        have c2b0 : decide (x4_1 < (l0.length : Int)) = false := decide_eq_false c2
        clear c2
        have H' := Aside0.mk H
        clear H
        go_wp2
        go_loopg [3, 7] k1 (fun kq v3 v7 w' => ∃ (x3_2 : List Int) (x7_2 : Int), v7 = .int .i64 x7_2 ∧ Aside0 (lictorref07_factors.l2 kq x3_2 x7_2 = some r) ∧ Aside0 (kq ≤ k1) ∧ Aside0 (Kd.R (Kd.int .i64) 3 w' w.heap.size (fun _ => True) v3 x3_2) ∧ Aside0 (Below w.heap.size w w'))
        case atStart => exact ⟨(x3_1), (0), (by first | rfl | (simp; done) | (simp [*]; done)), H', ⟨Nat.le_refl _⟩, ⟨by (with_reducible repeat (first | apply Kd.R_alloc | apply Kd.R_drewN | apply Kd.R_drew)); exact HO_3.out⟩, ⟨by repeat (first | (with_reducible first | exact HB.out | apply below_alloc | apply pw_below_drewN | apply below_drew1) | exact HB.out)⟩⟩
        case round =>
          clear H'
          try clear c1
          try clear p1
          try clear q1
          try clear hx1
          try clear c2
          try clear c2b0
          try clear p2
          try clear c3
          try clear c3b0
          try clear c4
          try clear c4b0
          try clear c5
          try clear p6
          try clear hx134_0
          try clear p1
          try clear p134
          try clear p2
          try clear q1
          try clear q134
          obtain ⟨x3_2, x7_2, rfl, HA, HK2, HO_3, HB⟩ := hrel
          cases gk with
          | zero => exact absurd HA.out (by simp [lictorref07_factors.l2])
          | succ k2 =>
            have H := HA.out
            clear HA
            simp only [lictorref07_factors.l2] at H
            by_cases c7 : x7_2 < 32
            · rw [if_pos c7] at H
              have c7b0 : decide (x7_2 < 32) = true := decide_eq_true c7
              clear c7
              by_cases c8 : x3_2.length < 17592186044416
              · rw [if_pos c8] at H
                have LMc8 := Aside0.mk c8
                clear c8
                obtain ⟨y138, hy138⟩ : ∃ y_ : List Int, y_ = (x3_2 ++ [0]) := ⟨_, rfl⟩
                replace H : (lictorref07_factors.l2 k2 y138 (wrap64 (x7_2 + 1))) = some r := by first | (rw [hy138]; with_reducible exact H) | (have H2_ := (Option.bind_some _ _).symm.trans H; rw [hy138]; with_reducible exact H2_) | (have H2_ := (Option.bind_some _ _).symm.trans H; with_reducible exact H2_) | with_reducible exact H | (rw [hy138]; exact H) | exact H
                have Ny138 := Aside0.mk hy138
                clear hy138
                have H' := Aside0.mk H
                clear H
                go_wp2_with (first | ((with_reducible refine gate_builtin (b := .append) (xs := #[.tmp 35, .tmp 36]) rfl ?_); at_builtin; refine Kd.R_append (Kd.int .i64) (w0 := w) w.heap.size rfl (.tmp 35) (.tmp 36) 39 3 (.int .i64 0) 8 rfl Try.underlying39 info3 rfl (by decide) (by omega) u3 x3_2 0 [.int .i64 0] (fun _ => True) (fun _ => False) rfl rfl ?aP (fun _ hk => hk.elim) ?aF ?aO ?aB ?aS ?aL ?_; (case aP => exact rfl); (case aB => exact (by repeat (first | (with_reducible first | exact HB.out | apply below_alloc | apply pw_below_drewN | apply below_drew1) | exact HB.out))); (case aF => exact (fun _ _ => trivial)); (case aO => exact (by (with_reducible repeat (first | apply Kd.R_alloc | apply Kd.R_drewN | apply Kd.R_drew)); exact HO_3.out)); (case aS => exact (below_size (by repeat (first | (with_reducible first | exact HB.out | apply below_alloc | apply pw_below_drewN | apply below_drew1) | exact HB.out)))); (case aL => have := LMc8.out; omega); intro v139 w9 ho hb hg hat; rw [← Ny138.out] at ho; have n0_ := Aside0.mk (hb); have n1_ := Aside0.mk (ho); clear HB; clear HO_3; have HB := n0_; have HO140 := n1_; clear n0_ n1_; clear ho hb hg hat))
                go_roundg k2
                case measure => have := HK1.out; have := HK2.out; omega
                case rel => exact ⟨(y138), (wrap64 (x7_2 + 1)), (by first | rfl | (simp; done) | (simp [*]; done)), H', ⟨by have := HK1.out; have := HK2.out; omega⟩, ⟨by (with_reducible repeat (first | apply Kd.R_alloc | apply Kd.R_drewN | apply Kd.R_drew)); exact HO140.out⟩, ⟨by repeat (first | (with_reducible first | exact HB.out | apply below_alloc | apply pw_below_drewN | apply below_drew1) | exact HB.out)⟩⟩
              · rw [if_neg c8] at H
                exact absurd H (by simp)
            · rw [if_neg c7] at H
              have c7b0 : decide (x7_2 < 32) = false := decide_eq_false c7
              clear c7
              have H' := Aside0.mk H
              clear H
              go_wp2
              go_loopg [8] k2 (fun kq v8 w' => ∃ (x3_3 : List Int) (x8_3 : Int), v8 = .int .i64 x8_3 ∧ Aside0 (lictorref07_factors.l3 kq x3_3 x8_3 = some r) ∧ Aside0 (kq ≤ k2) ∧ Aside0 (Kd.R (Kd.int .i64) 3 w' w.heap.size (fun _ => True) u3 x3_3) ∧ Aside0 (Below w.heap.size w w'))
              case atStart => exact ⟨(x3_2), (0), (by first | rfl | (simp; done) | (simp [*]; done)), H', ⟨Nat.le_refl _⟩, ⟨by (with_reducible repeat (first | apply Kd.R_alloc | apply Kd.R_drewN | apply Kd.R_drew)); exact HO_3.out⟩, ⟨by repeat (first | (with_reducible first | exact HB.out | apply below_alloc | apply pw_below_drewN | apply below_drew1) | exact HB.out)⟩⟩
              case round =>
                clear H'
                try clear c1
                try clear p1
                try clear q1
                try clear hx1
                try clear c2
                try clear c2b0
                try clear p2
                try clear c3
                try clear c3b0
                try clear c4
                try clear c4b0
                try clear c5
                try clear p6
                try clear c7
                try clear c7b0
                try clear c8
                try clear hx134_0
                try clear p1
                try clear p134
                try clear p2
                try clear p6
                try clear q1
                try clear q134
                obtain ⟨x3_3, x8_3, rfl, HA, HK3, HO_3, HB⟩ := hrel
                cases gk with
                | zero => exact absurd HA.out (by simp [lictorref07_factors.l3])
                | succ k3 =>
                  have H := HA.out
                  clear HA
                  simp only [lictorref07_factors.l3] at H
                  by_cases c10 : x8_3 < 32
                  · rw [if_pos c10] at H
                    have c10b0 : decide (x8_3 < 32) = true := decide_eq_true c10
                    clear c10
                    by_cases c11 : 0 ≤ x8_3
                    · rw [if_pos c11] at H
                      have c11b0 : decide (0 ≤ x8_3) = true := decide_eq_true c11
                      clear c11
                      by_cases c12 : x8_3 < (x3_3.length : Int)
                      · rw [if_pos c12] at H
                        have c12b0 : decide (x8_3 < (x3_3.length : Int)) = true := decide_eq_true c12
                        clear c12
                        obtain ⟨y142, hy142⟩ : ∃ y_ : List Int, y_ = (x3_3.set (x8_3 : Int).toNat (wrap64 (1 - (rd x3_3 x8_3)))) := ⟨_, rfl⟩
                        replace H : (lictorref07_factors.l3 k3 y142 (wrap64 (x8_3 + 1))) = some r := by first | (rw [hy142]; with_reducible exact H) | (have H2_ := (Option.bind_some _ _).symm.trans H; rw [hy142]; with_reducible exact H2_) | (have H2_ := (Option.bind_some _ _).symm.trans H; with_reducible exact H2_) | with_reducible exact H | (rw [hy142]; exact H) | exact H
                        have Ny142 := Aside0.mk hy142
                        clear hy142
                        have H' := Aside0.mk H
                        clear H
                        obtain ⟨Ao14, co14, eo14⟩ := Kd.R_slice HO_3.out
                        subst eo14
                        have p141 : 0 ≤ (x8_3 : Int) := of_decide_eq_true (by first | (with_reducible assumption) | assumption)
                        have q141 : x8_3 < (x3_3.length : Int) := of_decide_eq_true (by first | (with_reducible assumption) | assumption)
                        obtain ⟨ad141, e141, hx141_0⟩ := Kd.at_int (Kd.R_reads' HO_3.out).2.2 x8_3 p141 q141
                        cases e141
                        replace p141 := eq_true p141
                        replace q141 := eq_true q141
                        have p13 : 0 ≤ (x8_3 : Int) := of_decide_eq_true (by first | (with_reducible assumption) | assumption)
                        have q13 : (x8_3 : Int) < ((x3_3.length : Int) : Int) := of_decide_eq_true (by first | (with_reducible assumption) | assumption)
                        obtain ⟨go13, co13, eo13, gb13, gl13, cl13, HG13⟩ := Kd.R_form HO_3.out (by omega)
                        (first | cases eo13 | (injection eo13 with ea_ en_ ec_; (first | subst ea_ | (injection ea_ with ea_; subst ea_)); subst ec_; clear en_))
                        have GB13 := Aside0.mk gb13
                        have GG13 := Aside0.mk HG13
                        clear gb13 gl13 HG13
                        (first | simp only [add_plain] at hx141_0 | skip)
                        obtain ⟨hx13_0, hf13_0⟩ := Kd.R_celln 0 HO_3.out (x8_3 : Int) p13 q13
                        replace p13 := eq_true p13
                        replace q13 := eq_true q13
                        have HP15 := Kd.R_putg HO_3.out (x8_3 : Int) (wrap64 (1 - (rd x3_3 x8_3)))
                        go_wp2_with (first | ((with_reducible refine gate_store (t := 3) (p := 49) rfl ?_); refine store_event (t := 3) (p := 49) (v := ?vo_w16) (w1 := (wr.setCell ⟨go13, (x8_3 : Int).toNat, none⟩ (.int .i64 (wrap64 (1 - (rd x3_3 x8_3)))))) ?hg ?ho ?hn ?hr ?_; (case ho => rfl); (case hg => rfl); (case hn => rfl); (case hr => first | (go_simp; done) | (go_simp; rfl)); intro w16 hw; have hg : wr.grownBy w16 (some go13) := (by rw [hw]; exact HP15.2); have hp_ : Kd.R (Kd.int .i64) 3 w16 w.heap.size (fun _ => True) (.slice (some ⟨go13, 0, none⟩) x3_3.length co14) y142 := (by rw [hw, Ny142.out]; exact HP15.1); clear HP15; have n0_ := Aside0.mk (hp_); have n1_ := Aside0.mk ((by rw [hw]; exact below_set (HB.out) GB13.out : Below w.heap.size w w16)); clear HO_3; clear HB; have HO_3 := n0_; have HB := n1_; clear n0_ n1_; clear hg hw hp_))
                        go_roundg k3
                        case measure => have := HK1.out; have := HK2.out; have := HK3.out; omega
                        case rel => exact ⟨(y142), (wrap64 (x8_3 + 1)), (by first | rfl | (simp; done) | (simp [*]; done)), H', ⟨by have := HK1.out; have := HK2.out; have := HK3.out; omega⟩, ⟨by (with_reducible repeat (first | apply Kd.R_alloc | apply Kd.R_drewN | apply Kd.R_drew)); exact HO_3.out⟩, ⟨by repeat (first | (with_reducible first | exact HB.out | apply below_alloc | apply pw_below_drewN | apply below_drew1) | exact HB.out)⟩⟩
                      · rw [if_neg c12] at H
                        exact absurd H (by simp)
                    · rw [if_neg c11] at H
                      exact absurd H (by simp)
                  · rw [if_neg c10] at H
                    have c10b0 : decide (x8_3 < 32) = false := decide_eq_false c10
                    clear c10
                    obtain rfl := Option.some.inj H
                    go_wp2
                    go_ret
                    exact ⟨_, by first | rfl | (simp [errW_none, errW_some] <;> rfl) | (simp [*, errW_none, errW_some] <;> rfl), by (with_reducible repeat (first | apply Kd.R_alloc | apply Kd.R_drewN | apply Kd.R_drew)); exact HO_3.out, by repeat (first | (with_reducible first | exact HB.out | apply below_alloc | apply pw_below_drewN | apply below_drew1) | exact HB.out)⟩

/-! ### lictorref07_powers: function 15 -/
def lictorref07_powers.f  : Option (List Int) := some (([26, 23, 22, 16, 12, 11, 10, 8, 7, 5, 4, 2, 1, 0] : List Int))
set_option maxHeartbeats 8000000 in
set_option maxRecDepth 100000 in
theorem lictorref07_powers.calls  (r : List Int) (w : World) (h : lictorref07_powers.f  = some r) :
    Calls Try.prog 15 #[] w fun e w' => ∃ v0_ : Value, e = .returned (v0_) ∧ Kd.R (Kd.int .i64) 3 w' w.heap.size (fun _ => True) v0_ r ∧ Below w.heap.size w w' := by
  have HB := Aside0.mk (Below.refl w.heap.size w)
  have H : (some (([26, 23, 22, 16, 12, 11, 10, 8, 7, 5, 4, 2, 1, 0] : List Int))) = some r := h
  clear h
  obtain ⟨y143, hy143⟩ : ∃ y_ : List Int, y_ = (([26, 23, 22, 16, 12, 11, 10, 8, 7, 5, 4, 2, 1, 0] : List Int)) := ⟨_, rfl⟩
  replace H : (some y143) = some r := by first | (rw [hy143]; with_reducible exact H) | (have H2_ := (Option.bind_some _ _).symm.trans H; rw [hy143]; with_reducible exact H2_) | (have H2_ := (Option.bind_some _ _).symm.trans H; with_reducible exact H2_) | with_reducible exact H | (rw [hy143]; exact H) | exact H
  have Ny143 := Aside0.mk hy143
  clear hy143
  obtain rfl := Option.some.inj H
  go_enter Try.func15, Try.ntmps15
  go_wp2_with (first | ((with_reducible refine gate_dst (N := 1) rfl ?_); refine Kd.R_lit (Kd.int .i64) _ 3 ?hg (N := 1) ?hd (xs := ([26, 23, 22, 16, 12, 11, 10, 8, 7, 5, 4, 2, 1, 0] : List Int)) (inner := [.int .i64 26, .int .i64 23, .int .i64 22, .int .i64 16, .int .i64 12, .int .i64 11, .int .i64 10, .int .i64 8, .int .i64 7, .int .i64 5, .int .i64 4, .int .i64 2, .int .i64 1, .int .i64 0]) (ok := fun _ => True) (okp := fun _ => True) ?hr ?hp (fun _ hk => hk) trivial (Below.refl _ _) (Nat.le_refl _) (by simp) ?_; (case hd => rfl); (case hg => rfl); (case hr => first | (go_simp; done) | (go_simp; rfl)); (case hp => exact (Reps.one (show Kd.M (Kd.int .i64) _ _ _ 26 [.int .i64 26] from rfl) (Reps.one (show Kd.M (Kd.int .i64) _ _ _ 23 [.int .i64 23] from rfl) (Reps.one (show Kd.M (Kd.int .i64) _ _ _ 22 [.int .i64 22] from rfl) (Reps.one (show Kd.M (Kd.int .i64) _ _ _ 16 [.int .i64 16] from rfl) (Reps.one (show Kd.M (Kd.int .i64) _ _ _ 12 [.int .i64 12] from rfl) (Reps.one (show Kd.M (Kd.int .i64) _ _ _ 11 [.int .i64 11] from rfl) (Reps.one (show Kd.M (Kd.int .i64) _ _ _ 10 [.int .i64 10] from rfl) (Reps.one (show Kd.M (Kd.int .i64) _ _ _ 8 [.int .i64 8] from rfl) (Reps.one (show Kd.M (Kd.int .i64) _ _ _ 7 [.int .i64 7] from rfl) (Reps.one (show Kd.M (Kd.int .i64) _ _ _ 5 [.int .i64 5] from rfl) (Reps.one (show Kd.M (Kd.int .i64) _ _ _ 4 [.int .i64 4] from rfl) (Reps.one (show Kd.M (Kd.int .i64) _ _ _ 2 [.int .i64 2] from rfl) (Reps.one (show Kd.M (Kd.int .i64) _ _ _ 1 [.int .i64 1] from rfl) (Reps.one (show Kd.M (Kd.int .i64) _ _ _ 0 [.int .i64 0] from rfl) (Reps.none _ _)))))))))))))))); intro v144 w1 ho2 hb hg_ hnew_; clear hg_ hnew_; (first | rw [← Ny143.out] at ho2 | (simp only [Int.reduceToNat] at ho2; rw [← Ny143.out] at ho2)); have n0_ := Aside0.mk (Kd.R_lower ho2 (below_size (by repeat (first | (with_reducible first | exact HB.out | apply below_alloc | apply pw_below_drewN | apply below_drew1) | exact HB.out)))); have n1_ := Aside0.mk (below_step (by repeat (first | (with_reducible first | exact HB.out | apply below_alloc | apply pw_below_drewN | apply below_drew1) | exact HB.out)) hb); clear HB; have HO145 := n0_; have HB := n1_; clear n0_ n1_; clear hb ho2))
  go_ret
  exact ⟨_, by first | rfl | (simp [errW_none, errW_some] <;> rfl) | (simp [*, errW_none, errW_some] <;> rfl), by (with_reducible repeat (first | apply Kd.R_alloc | apply Kd.R_drewN | apply Kd.R_drew)); exact HO145.out, by repeat (first | (with_reducible first | exact HB.out | apply below_alloc | apply pw_below_drewN | apply below_drew1) | exact HB.out)⟩

/-! ### lictorref07_Sum: function 11 -/
mutual
def lictorref07_Sum.l0 : Nat → List Int → List Int → Int → Int → Option (Int)
  | 0, _, _, _, _ => none
  | k + 1, x3, x4, x5, x6 => if x6 < x5 then (if 0 ≤ x6 then (if x6 < (x3.length : Int) then (if (rd x3 x6) = 0 then (lictorref07_Sum.l0 k x3 x4 x5 (wrap64 (x6 + 1))) else (lictorref07_Sum.l1 k (x3.set (x6 : Int).toNat 0) x4 x5 x6 0)) else (none)) else (none)) else (lictorref07_Sum.l2 k x3 x5 0 (wrap64 ((x3.length : Int) - 1)))
def lictorref07_Sum.l1 : Nat → List Int → List Int → Int → Int → Int → Option (Int)
  | 0, _, _, _, _, _ => none
  | k + 1, x3, x4, x5, x6, x7 => if x7 < (x4.length : Int) then (if 0 ≤ x7 then (if 0 ≤ (wrap64 ((wrap64 (x6 + 32)) - (rd x4 x7))) then (if (wrap64 ((wrap64 (x6 + 32)) - (rd x4 x7))) < (x3.length : Int) then (lictorref07_Sum.l1 k (x3.set ((wrap64 ((wrap64 (x6 + 32)) - (rd x4 x7))) : Int).toNat (wrap64 (1 - (rd x3 (wrap64 ((wrap64 (x6 + 32)) - (rd x4 x7))))))) x4 x5 x6 (wrap64 (x7 + 1))) else (none)) else (none)) else (none)) else (lictorref07_Sum.l0 k x3 x4 x5 (wrap64 (x6 + 1)))
def lictorref07_Sum.l2 : Nat → List Int → Int → Int → Int → Option (Int)
  | 0, _, _, _, _ => none
  | k + 1, x3, x5, x9, x10 => if x10 ≥ x5 then (if 0 ≤ x10 then (if x10 < (x3.length : Int) then (lictorref07_Sum.l2 k x3 x5 ((((2 * x9) % 4294967296) + ((wrap64 (1 - (rd x3 x10))) % 4294967296)) % 4294967296) (wrap64 (x10 - 1))) else (none)) else (none)) else (some x9)
end
def lictorref07_Sum.f (k : Nat) (l0 : List Int) : Option (Int) := (lictorref07_factors.f k l0).bind fun t146 => ((lictorref07_powers.f).bind fun t149 => (lictorref07_Sum.l0 k t146 t149 (wrap64 ((t146.length : Int) - 32)) 0))
theorem lictorref07_Sum.mono_l : ∀ k, (∀ y0 y1 y2 y3, LeO (lictorref07_Sum.l0 k y0 y1 y2 y3) (lictorref07_Sum.l0 (k + 1) y0 y1 y2 y3)) ∧ (∀ y0 y1 y2 y3 y4, LeO (lictorref07_Sum.l1 k y0 y1 y2 y3 y4) (lictorref07_Sum.l1 (k + 1) y0 y1 y2 y3 y4)) ∧ (∀ y0 y1 y2 y3, LeO (lictorref07_Sum.l2 k y0 y1 y2 y3) (lictorref07_Sum.l2 (k + 1) y0 y1 y2 y3))
  | 0 => ⟨fun _ _ _ _ r h => by simp [lictorref07_Sum.l0] at h, fun _ _ _ _ _ r h => by simp [lictorref07_Sum.l1] at h, fun _ _ _ _ r h => by simp [lictorref07_Sum.l2] at h⟩
  | k + 1 => by
    obtain ⟨ih0, ih1, ih2⟩ := lictorref07_Sum.mono_l k
    refine ⟨?_, ?_, ?_⟩
    · intro y0 y1 y2 y3
      unfold lictorref07_Sum.l0
      repeat' first
      | (with_reducible exact ih0 _ _ _ _)
      | (with_reducible exact ih1 _ _ _ _ _)
      | (with_reducible exact ih2 _ _ _ _)
      | (with_reducible exact lictorref07_factors.mono _ _)
      | (with_reducible exact LeO.refl _)
      | (with_reducible exact LeO.none _)
      | (with_reducible refine LeO.ite ?_ ?_)
      | (with_reducible refine LeO.bind ?_ (fun _ => ?_))
      | exact ih0 _ _ _ _
      | exact ih1 _ _ _ _ _
      | exact ih2 _ _ _ _
      | exact lictorref07_factors.mono _ _
      | exact LeO.none _
      | refine LeO.ite ?_ ?_
      | refine LeO.bind ?_ (fun _ => ?_)
    · intro y0 y1 y2 y3 y4
      unfold lictorref07_Sum.l1
      repeat' first
      | (with_reducible exact ih0 _ _ _ _)
      | (with_reducible exact ih1 _ _ _ _ _)
      | (with_reducible exact ih2 _ _ _ _)
      | (with_reducible exact lictorref07_factors.mono _ _)
      | (with_reducible exact LeO.refl _)
      | (with_reducible exact LeO.none _)
      | (with_reducible refine LeO.ite ?_ ?_)
      | (with_reducible refine LeO.bind ?_ (fun _ => ?_))
      | exact ih0 _ _ _ _
      | exact ih1 _ _ _ _ _
      | exact ih2 _ _ _ _
      | exact lictorref07_factors.mono _ _
      | exact LeO.none _
      | refine LeO.ite ?_ ?_
      | refine LeO.bind ?_ (fun _ => ?_)
    · intro y0 y1 y2 y3
      unfold lictorref07_Sum.l2
      repeat' first
      | (with_reducible exact ih0 _ _ _ _)
      | (with_reducible exact ih1 _ _ _ _ _)
      | (with_reducible exact ih2 _ _ _ _)
      | (with_reducible exact lictorref07_factors.mono _ _)
      | (with_reducible exact LeO.refl _)
      | (with_reducible exact LeO.none _)
      | (with_reducible refine LeO.ite ?_ ?_)
      | (with_reducible refine LeO.bind ?_ (fun _ => ?_))
      | exact ih0 _ _ _ _
      | exact ih1 _ _ _ _ _
      | exact ih2 _ _ _ _
      | exact lictorref07_factors.mono _ _
      | exact LeO.none _
      | refine LeO.ite ?_ ?_
      | refine LeO.bind ?_ (fun _ => ?_)
theorem lictorref07_Sum.mono : ∀ a0 k, LeO (lictorref07_Sum.f k a0) (lictorref07_Sum.f (k + 1) a0) := by
  intro a0 k
  obtain ⟨ih0, ih1, ih2⟩ := lictorref07_Sum.mono_l k
  unfold lictorref07_Sum.f
  repeat' first
      | (with_reducible exact ih0 _ _ _ _)
      | (with_reducible exact ih1 _ _ _ _ _)
      | (with_reducible exact ih2 _ _ _ _)
      | (with_reducible exact lictorref07_factors.mono _ _)
      | (with_reducible exact LeO.refl _)
      | (with_reducible exact LeO.none _)
      | (with_reducible refine LeO.ite ?_ ?_)
      | (with_reducible refine LeO.bind ?_ (fun _ => ?_))
      | exact ih0 _ _ _ _
      | exact ih1 _ _ _ _ _
      | exact ih2 _ _ _ _
      | exact lictorref07_factors.mono _ _
      | exact LeO.none _
      | refine LeO.ite ?_ ?_
      | refine LeO.bind ?_ (fun _ => ?_)
set_option maxHeartbeats 8000000 in
set_option maxRecDepth 100000 in
theorem lictorref07_Sum.calls (k : Nat) (A0 : Option Addr) (c0 : Nat) (l0 : List Int) (r : Int) (w : World) (hr0 : Kd.C (Kd.int .u8) w A0 l0.length l0) (hc0 : l0.length ≤ c0) (h : lictorref07_Sum.f k l0 = some r) :
    Calls Try.prog 11 #[.slice A0 l0.length c0] w fun e w' => e = .returned (.int .u32 r) ∧ Below w.heap.size w w' := by
  have HR0 := Aside0.mk hr0
  have HC0 := Aside0.mk hc0
  clear hr0 hc0
  have HB := Aside0.mk (Below.refl w.heap.size w)
  have H : ((lictorref07_factors.f k l0).bind fun t146 => ((lictorref07_powers.f).bind fun t149 => (lictorref07_Sum.l0 k t146 t149 (wrap64 ((t146.length : Int) - 32)) 0))) = some r := h
  clear h
  replace H := Option.bind_eq_some_iff.mp H
  obtain ⟨t146, A20, H⟩ := H
  replace H : ((lictorref07_powers.f).bind fun t149 => (lictorref07_Sum.l0 k t146 t149 (wrap64 ((t146.length : Int) - 32)) 0)) = some r := H
  have A2 := Aside0.mk A20
  clear A20
  replace H := Option.bind_eq_some_iff.mp H
  obtain ⟨t149, A30, H⟩ := H
  replace H : (lictorref07_Sum.l0 k t146 t149 (wrap64 ((t146.length : Int) - 32)) 0) = some r := H
  have A3 := Aside0.mk A30
  clear A30
  have H' := Aside0.mk H
  clear H
  go_enter Try.func11, Try.ntmps11
  go_wp2_with (first | ((with_reducible refine gate_callee (f := 14) rfl ?_); refine goesL_ (some 12) rfl rfl Try.func14 (by kernel_rfl) rfl #[.slice A0 l0.length c0] rfl (by (try simp only [List.map_toArray, List.map_cons, List.map_nil]); first | done | rfl | (simp only [List.length_drop, List.length_take]; rfl)) ?_; (with_reducible refine (lictorref07_factors.calls k _ _ l0 t146 _ ?side1 ?side2 A2.out).mono ?_); (case side1 => repeat (first | exact HR0.out | (with_reducible refine Kd.C_alloc ?_ _) | (with_reducible refine Kd.C_drewN ?_ _) | (with_reducible refine Kd.C_drew ?_))); (case side2 => exact HC0.out); rintro e w4 ⟨v147, rfl, ho0, hb⟩; refine ⟨_, rfl, ?_⟩; have n0_ := Aside0.mk (Kd.R_lower ho0 (below_size (by repeat (first | (with_reducible first | exact HB.out | apply below_alloc | apply pw_below_drewN | apply below_drew1) | exact HB.out)))); have n1_ := Aside0.mk (below_step (by repeat (first | (with_reducible first | exact HB.out | apply below_alloc | apply pw_below_drewN | apply below_drew1) | exact HB.out)) hb); clear HB; have HO148 := n0_; have HB := n1_; clear n0_ n1_; (try clear hb); (try clear hb2); (try clear hk); (try clear hi); (try clear ho0)) | ((with_reducible refine gate_callee (f := 15) rfl ?_); refine goesL_ (some 13) rfl rfl Try.func15 (by kernel_rfl) rfl #[] rfl (by (try simp only [List.map_toArray, List.map_cons, List.map_nil]); first | done | rfl | (simp only [List.length_drop, List.length_take]; rfl)) ?_; (with_reducible refine (lictorref07_powers.calls  t149 _ A3.out).mono ?_); rintro e w5 ⟨v150, rfl, ho0, hb⟩; refine ⟨_, rfl, ?_⟩; have n0_ := Aside0.mk (Kd.R_elder' (by (with_reducible repeat (first | apply Kd.R_alloc | apply Kd.R_drewN | apply Kd.R_drew)); exact HO148.out) (Kd.R_base ho0) hb); have n1_ := Aside0.mk (Kd.R_lower (Kd.R_new' ho0 (Kd.R_lt (by (with_reducible repeat (first | apply Kd.R_alloc | apply Kd.R_drewN | apply Kd.R_drew)); exact HO148.out))) (below_size (by repeat (first | (with_reducible first | exact HB.out | apply below_alloc | apply pw_below_drewN | apply below_drew1) | exact HB.out)))); have n2_ := Aside0.mk (below_step (by repeat (first | (with_reducible first | exact HB.out | apply below_alloc | apply pw_below_drewN | apply below_drew1) | exact HB.out)) hb); clear HO148; clear HB; have HO148 := n0_; have HO151 := n1_; have HB := n2_; clear n0_ n1_ n2_; (try clear hb); (try clear hb2); (try clear hk); (try clear hi); (try clear ho0); obtain ⟨Ao6, co6, eo6⟩ := Kd.R_slice HO148.out; subst eo6))
  go_loopg [6] k (fun kq v6 w' => ∃ (x3_1 : List Int) (x6_1 : Int), v6 = .int .i64 x6_1 ∧ Aside0 (lictorref07_Sum.l0 kq x3_1 t149 (wrap64 ((t146.length : Int) - 32)) x6_1 = some r) ∧ Aside0 (kq ≤ k) ∧ Aside0 (Kd.R (Kd.int .i64) 3 w' w.heap.size (fun k_ => some k_ ≠ (v150 : Value).ownBlock) (.slice Ao6 t146.length co6) x3_1) ∧ Aside0 (Kd.R (Kd.int .i64) 3 w' w.heap.size (fun k_ => some k_ ≠ ((.slice Ao6 t146.length co6) : Value).ownBlock) v150 t149) ∧ Aside0 (Below w.heap.size w w'))
  case atStart => exact ⟨(t146), (0), (by first | rfl | (simp; done) | (simp [*]; done)), H', ⟨Nat.le_refl _⟩, ⟨by (with_reducible repeat (first | apply Kd.R_alloc | apply Kd.R_drewN | apply Kd.R_drew)); exact Kd.R_mono HO148.out (fun _ hk => hk.2)⟩, ⟨by (with_reducible repeat (first | apply Kd.R_alloc | apply Kd.R_drewN | apply Kd.R_drew)); exact Kd.R_mono HO151.out (fun _ hk => hk.2)⟩, ⟨by repeat (first | (with_reducible first | exact HB.out | apply below_alloc | apply pw_below_drewN | apply below_drew1) | exact HB.out)⟩⟩
  case round =>
    clear H'
    try clear c1
    try clear p2
    try clear p6
    obtain ⟨x3_1, x6_1, rfl, HA, HK1, HO_3, HO_4, HB⟩ := hrel
    have hl3_1 := (Kd.R_reads' HO_3.out).1
    rw [hl3_1] at HO_3
    (try simp only [hl3_1])
    (try simp only [hl3_1] at HO_4)
    cases gk with
    | zero => exact absurd HA.out (by simp [lictorref07_Sum.l0])
    | succ k1 =>
      have H := HA.out
      clear HA
      simp only [lictorref07_Sum.l0] at H
      by_cases c7 : x6_1 < (wrap64 ((t146.length : Int) - 32))
      · rw [if_pos c7] at H
        have c7b0 : decide (x6_1 < (wrap64 ((t146.length : Int) - 32))) = true := decide_eq_true c7
        clear c7
        (try (have c7b0h := c7b0; simp only [hl3_1] at c7b0h))
        (try (have c7b1h := c7b1; simp only [hl3_1] at c7b1h))
        by_cases c8 : 0 ≤ x6_1
        · rw [if_pos c8] at H
          have c8b0 : decide (0 ≤ x6_1) = true := decide_eq_true c8
          clear c8
          by_cases c9 : x6_1 < (x3_1.length : Int)
          · rw [if_pos c9] at H
            have c9b0 : decide (x6_1 < (x3_1.length : Int)) = true := decide_eq_true c9
            clear c9
            (try (have c9b0h := c9b0; simp only [hl3_1] at c9b0h))
            (try (have c9b1h := c9b1; simp only [hl3_1] at c9b1h))
            by_cases c10 : (rd x3_1 x6_1) = 0
            · rw [if_pos c10] at H
              have c10b0 : ((rd x3_1 x6_1) == 0) = true := beq_iff_eq.mpr c10
              have c10b1 : ((rd x3_1 x6_1) != 0) = false := bne_eq_false_iff_eq.mpr c10
              clear c10
              have H' := Aside0.mk H
              clear H
              have p152 : 0 ≤ (x6_1 : Int) := of_decide_eq_true (by first | (with_reducible assumption) | assumption)
              have q152 : x6_1 < (x3_1.length : Int) := of_decide_eq_true (by first | (with_reducible assumption) | assumption)
              obtain ⟨ad152, e152, hx152_0⟩ := Kd.at_int (Kd.R_reads' HO_3.out).2.2 x6_1 p152 q152
              cases e152
              replace p152 := eq_true p152
              replace q152 := eq_true q152
              go_wp2
              (try simp only [← hl3_1])
              go_roundg k1
              case measure => have := HK1.out; omega
              case rel => exact ⟨(x3_1), (wrap64 (x6_1 + 1)), (by first | rfl | (simp; done) | (simp [*]; done)), H', ⟨by have := HK1.out; omega⟩, ⟨by (try simp only [hl3_1]); (with_reducible repeat (first | apply Kd.R_alloc | apply Kd.R_drewN | apply Kd.R_drew)); exact HO_3.out⟩, ⟨by (try simp only [hl3_1]); (with_reducible repeat (first | apply Kd.R_alloc | apply Kd.R_drewN | apply Kd.R_drew)); exact HO_4.out⟩, ⟨by repeat (first | (with_reducible first | exact HB.out | apply below_alloc | apply pw_below_drewN | apply below_drew1) | exact HB.out)⟩⟩
            · rw [if_neg c10] at H
              have c10b0 : ((rd x3_1 x6_1) == 0) = false := beq_eq_false_iff_ne.mpr c10
              have c10b1 : ((rd x3_1 x6_1) != 0) = true := bne_iff_ne.mpr c10
              obtain ⟨y153, hy153⟩ : ∃ y_ : List Int, y_ = (x3_1.set (x6_1 : Int).toNat 0) := ⟨_, rfl⟩
              replace H : (lictorref07_Sum.l1 k1 y153 t149 (wrap64 ((t146.length : Int) - 32)) x6_1 0) = some r := by first | (rw [hy153]; with_reducible exact H) | (have H2_ := (Option.bind_some _ _).symm.trans H; rw [hy153]; with_reducible exact H2_) | (have H2_ := (Option.bind_some _ _).symm.trans H; with_reducible exact H2_) | with_reducible exact H | (rw [hy153]; exact H) | exact H
              have Ny153 := Aside0.mk hy153
              clear hy153
              have H' := Aside0.mk H
              clear H
              have p152 : 0 ≤ (x6_1 : Int) := of_decide_eq_true (by first | (with_reducible assumption) | assumption)
              have q152 : x6_1 < (x3_1.length : Int) := of_decide_eq_true (by first | (with_reducible assumption) | assumption)
              obtain ⟨ad152, e152, hx152_0⟩ := Kd.at_int (Kd.R_reads' HO_3.out).2.2 x6_1 p152 q152
              cases e152
              replace p152 := eq_true p152
              replace q152 := eq_true q152
              have p11 : 0 ≤ (x6_1 : Int) := of_decide_eq_true (by first | (with_reducible assumption) | assumption)
              have q11 : (x6_1 : Int) < ((x3_1.length : Int) : Int) := of_decide_eq_true (by first | (with_reducible assumption) | assumption)
              obtain ⟨go11, co11, eo11, gb11, gl11, cl11, HG11⟩ := Kd.R_form HO_3.out (by omega)
              (first | cases eo11 | (injection eo11 with ea_ en_ ec_; (first | subst ea_ | (injection ea_ with ea_; subst ea_)); subst ec_; clear en_))
              have GB11 := Aside0.mk gb11
              have GG11 := Aside0.mk HG11
              clear gb11 gl11 HG11
              (first | simp only [add_plain] at hx152_0 | skip)
              obtain ⟨hx11_0, hf11_0⟩ := Kd.R_celln 0 HO_3.out (x6_1 : Int) p11 q11
              replace p11 := eq_true p11
              replace q11 := eq_true q11
              have HP12 := Kd.R_putg HO_3.out (x6_1 : Int) 0
              go_wp2_with (first | ((with_reducible refine gate_store (t := 3) (p := 29) rfl ?_); refine store_event (t := 3) (p := 29) (v := ?vo_w13) (w1 := (wr.setCell ⟨go11, (x6_1 : Int).toNat, none⟩ (.int .i64 0))) ?hg ?ho ?hn ?hr ?_; (case ho => rfl); (case hg => rfl); (case hn => rfl); (case hr => first | (go_simp; done) | (go_simp; rfl)); intro w13 hw; have hg : wr.grownBy w13 (some go11) := (by rw [hw]; exact HP12.2); have hp_ : Kd.R (Kd.int .i64) 3 w13 w.heap.size (fun k_ => some k_ ≠ (v150 : Value).ownBlock) (.slice (some ⟨go11, 0, none⟩) x3_1.length co6) y153 := (by rw [hw, Ny153.out]; exact HP12.1); clear HP12; have n0_ := Aside0.mk (hp_); have n1_ := Aside0.mk (Kd.R_after (v := (.slice (some ⟨go11, 0, none⟩) x3_1.length co6)) (v1 := (.slice (some ⟨go11, 0, none⟩) x3_1.length co6)) (ok := (fun _ => True)) (by (with_reducible repeat (first | apply Kd.R_alloc | apply Kd.R_drewN | apply Kd.R_drew)); exact Kd.R_mono HO_4.out (fun _ hk => ⟨trivial, hk⟩)) hg (.inl rfl)); have n2_ := Aside0.mk ((by rw [hw]; exact below_set (HB.out) GB11.out : Below w.heap.size w w13)); clear HO_3; clear HO_4; clear HB; have HO_3 := n0_; have HO_4 := n1_; have HB := n2_; clear n0_ n1_ n2_; clear hg hw hp_))
              go_loopg [7] k1 (fun kq v7 w' => ∃ (x3_2 : List Int) (x7_2 : Int), v7 = .int .i64 x7_2 ∧ Aside0 (lictorref07_Sum.l1 kq x3_2 t149 (wrap64 ((t146.length : Int) - 32)) x6_1 x7_2 = some r) ∧ Aside0 (kq ≤ k1) ∧ Aside0 (Kd.R (Kd.int .i64) 3 w' w.heap.size (fun k_ => some k_ ≠ (v150 : Value).ownBlock) (.slice (some ⟨go11, 0, none⟩) x3_1.length co6) x3_2) ∧ Aside0 (Kd.R (Kd.int .i64) 3 w' w.heap.size (fun k_ => some k_ ≠ ((.slice (some ⟨go11, 0, none⟩) x3_1.length co6) : Value).ownBlock) v150 t149) ∧ Aside0 (Below w.heap.size w w'))
              case atStart => exact ⟨(y153), (0), (by first | rfl | (simp; done) | (simp [*]; done)), H', ⟨Nat.le_refl _⟩, ⟨by (try simp only [hl3_1]); (with_reducible repeat (first | apply Kd.R_alloc | apply Kd.R_drewN | apply Kd.R_drew)); exact HO_3.out⟩, ⟨by (try simp only [hl3_1]); (with_reducible repeat (first | apply Kd.R_alloc | apply Kd.R_drewN | apply Kd.R_drew)); exact Kd.R_mono HO_4.out (fun _ hk => hk.2)⟩, ⟨by repeat (first | (with_reducible first | exact HB.out | apply below_alloc | apply pw_below_drewN | apply below_drew1) | exact HB.out)⟩⟩
              case round =>
                clear H'
                try clear c1
                try clear p1
                try clear q1
                try clear hx1
                try clear hf1
                try clear p2
                try clear p6
                try clear c7
                try clear c7b0
                try clear c7b1
                try clear c8
                try clear c8b0
                try clear c9
                try clear c9b0
                try clear c9b1
                try clear c10
                try clear c10b0
                try clear c10b1
                try clear c11
                try clear p11
                try clear q11
                try clear hx11
                try clear hf11
                try clear hx11_0
                try clear hx152_0
                try clear p11
                try clear p152
                try clear p2
                try clear p6
                try clear q11
                try clear q152
                obtain ⟨x3_2, x7_2, rfl, HA, HK2, HO_3, HO_4, HB⟩ := hrel
                have hl3_2 := (Kd.R_reads' HO_3.out).1
                rw [hl3_2] at HO_3
                (try simp only [hl3_2])
                (try simp only [hl3_2] at HO_4)
                cases gk with
                | zero => exact absurd HA.out (by simp [lictorref07_Sum.l1])
                | succ k2 =>
                  have H := HA.out
                  clear HA
                  simp only [lictorref07_Sum.l1] at H
                  by_cases c14 : x7_2 < (t149.length : Int)
                  · rw [if_pos c14] at H
                    have c14b0 : decide (x7_2 < (t149.length : Int)) = true := decide_eq_true c14
                    clear c14
                    (try (have c14b0h := c14b0; simp only [hl3_1, hl3_2] at c14b0h))
                    (try (have c14b1h := c14b1; simp only [hl3_1, hl3_2] at c14b1h))
                    by_cases c15 : 0 ≤ x7_2
                    · rw [if_pos c15] at H
                      have c15b0 : decide (0 ≤ x7_2) = true := decide_eq_true c15
                      clear c15
                      obtain ⟨ji16, hji16⟩ : ∃ j_ : Int, (wrap64 ((wrap64 (x6_1 + 32)) - (rd t149 x7_2))) = j_ := ⟨_, rfl⟩
                      replace H : (if 0 ≤ (ji16) then (if (ji16) < (x3_2.length : Int) then (lictorref07_Sum.l1 k2 (x3_2.set ((ji16) : Int).toNat (wrap64 (1 - (rd x3_2 (ji16))))) t149 (wrap64 ((t146.length : Int) - 32)) x6_1 (wrap64 (x7_2 + 1))) else (none)) else (none)) = some r := by first | (rw [hji16] at H; exact H) | (simp only [hji16] at H ⊢; exact H)
                      have hji16w : (IntKind.i64.wrap ((wrap64 (x6_1 + 32)) - (rd t149 x7_2))) = ji16 := (i64_w _).trans hji16
                      by_cases c17 : 0 ≤ (ji16)
                      · rw [if_pos c17] at H
                        have c17b0 : decide (0 ≤ (ji16)) = true := decide_eq_true c17
                        clear c17
                        by_cases c18 : (ji16) < (x3_2.length : Int)
                        · rw [if_pos c18] at H
                          have c18b0 : decide ((ji16) < (x3_2.length : Int)) = true := decide_eq_true c18
                          clear c18
                          (try (have c18b0h := c18b0; simp only [hl3_1, hl3_2] at c18b0h))
                          (try (have c18b1h := c18b1; simp only [hl3_1, hl3_2] at c18b1h))
                          obtain ⟨y156, hy156⟩ : ∃ y_ : List Int, y_ = (x3_2.set ((ji16) : Int).toNat (wrap64 (1 - (rd x3_2 (ji16))))) := ⟨_, rfl⟩
                          replace H : (lictorref07_Sum.l1 k2 y156 t149 (wrap64 ((t146.length : Int) - 32)) x6_1 (wrap64 (x7_2 + 1))) = some r := by first | (rw [hy156]; with_reducible exact H) | (have H2_ := (Option.bind_some _ _).symm.trans H; rw [hy156]; with_reducible exact H2_) | (have H2_ := (Option.bind_some _ _).symm.trans H; with_reducible exact H2_) | with_reducible exact H | (rw [hy156]; exact H) | exact H
                          have Ny156 := Aside0.mk hy156
                          clear hy156
                          have H' := Aside0.mk H
                          clear H
                          obtain ⟨Ao20, co20, eo20⟩ := Kd.R_slice HO_4.out
                          subst eo20
                          have p154 : 0 ≤ (x7_2 : Int) := of_decide_eq_true (by first | (with_reducible assumption) | assumption)
                          have q154 : x7_2 < (t149.length : Int) := of_decide_eq_true (by first | (with_reducible assumption) | assumption)
                          obtain ⟨ad154, e154, hx154_0⟩ := Kd.at_int (Kd.R_reads' HO_4.out).2.2 x7_2 p154 q154
                          cases e154
                          replace p154 := eq_true p154
                          replace q154 := eq_true q154
                          have p155 : 0 ≤ ((ji16) : Int) := of_decide_eq_true (by first | (with_reducible assumption) | assumption)
                          have q155 : (ji16) < (x3_2.length : Int) := of_decide_eq_true (by first | (with_reducible assumption) | assumption)
                          obtain ⟨ad155, e155, hx155_0⟩ := Kd.at_int (Kd.R_reads' HO_3.out).2.2 (ji16) p155 q155
                          obtain rfl : (⟨go11, 0, none⟩ : Addr) = ad155 := (by injection e155)
                          (first | simp only [add_plain] at hx155_0 | simp only [add_at] at hx155_0 | simp only [Addr.add, Nat.zero_add] at hx155_0 | skip)
                          replace p155 := eq_true p155
                          replace q155 := eq_true q155
                          have p19 : 0 ≤ ((ji16) : Int) := of_decide_eq_true (by first | (with_reducible assumption) | assumption)
                          have q19 : ((ji16) : Int) < ((x3_2.length : Int) : Int) := of_decide_eq_true (by first | (with_reducible assumption) | assumption)
                          obtain ⟨hx19_0, hf19_0⟩ := Kd.R_celln 0 HO_3.out ((ji16) : Int) p19 q19
                          replace p19 := eq_true p19
                          replace q19 := eq_true q19
                          have HP21 := Kd.R_putg HO_3.out ((ji16) : Int) (wrap64 (1 - (rd x3_2 (ji16))))
                          go_wp2_with (first | ((with_reducible refine gate_store (t := 3) (p := 50) rfl ?_); refine store_event (t := 3) (p := 50) (v := ?vo_w22) (w1 := (wr.setCell ⟨go11, ((ji16) : Int).toNat, none⟩ (.int .i64 (wrap64 (1 - (rd x3_2 (ji16))))))) ?hg ?ho ?hn ?hr ?_; (case ho => rfl); (case hg => rfl); (case hn => rfl); (case hr => first | (go_simp; done) | (go_simp; rfl)); intro w22 hw; have hg : wr.grownBy w22 (some go11) := (by rw [hw]; exact HP21.2); have hp_ : Kd.R (Kd.int .i64) 3 w22 w.heap.size (fun k_ => some k_ ≠ (.slice (some ad154) t149.length co20 : Value).ownBlock) (.slice (some ⟨go11, 0, none⟩) x3_2.length co6) y156 := (by rw [hw, Ny156.out]; exact HP21.1); clear HP21; have n0_ := Aside0.mk (hp_); have n1_ := Aside0.mk (Kd.R_after (v := (.slice (some ⟨go11, 0, none⟩) x3_2.length co6)) (v1 := (.slice (some ⟨go11, 0, none⟩) x3_2.length co6)) (ok := (fun _ => True)) (by (with_reducible repeat (first | apply Kd.R_alloc | apply Kd.R_drewN | apply Kd.R_drew)); exact Kd.R_mono HO_4.out (fun _ hk => ⟨trivial, hk⟩)) hg (.inl rfl)); have n2_ := Aside0.mk ((by rw [hw]; exact below_set (HB.out) GB11.out : Below w.heap.size w w22)); clear HO_3; clear HO_4; clear HB; have HO_3 := n0_; have HO_4 := n1_; have HB := n2_; clear n0_ n1_ n2_; clear hg hw hp_))
                          (try simp only [← hl3_2])
                          go_roundg k2
                          case measure => have := HK1.out; have := HK2.out; omega
                          case rel => exact ⟨(y156), (wrap64 (x7_2 + 1)), (by first | rfl | (simp; done) | (simp [*]; done)), H', ⟨by have := HK1.out; have := HK2.out; omega⟩, ⟨by (try simp only [hl3_1]); (try simp only [hl3_2]); (with_reducible repeat (first | apply Kd.R_alloc | apply Kd.R_drewN | apply Kd.R_drew)); exact HO_3.out⟩, ⟨by (try simp only [hl3_1]); (try simp only [hl3_2]); (with_reducible repeat (first | apply Kd.R_alloc | apply Kd.R_drewN | apply Kd.R_drew)); exact Kd.R_mono HO_4.out (fun _ hk => hk.2)⟩, ⟨by repeat (first | (with_reducible first | exact HB.out | apply below_alloc | apply pw_below_drewN | apply below_drew1) | exact HB.out)⟩⟩
                        · rw [if_neg c18] at H
                          exact absurd H (by simp)
                      · rw [if_neg c17] at H
                        exact absurd H (by simp)
                    · rw [if_neg c15] at H
                      exact absurd H (by simp)
                  · rw [if_neg c14] at H
                    have c14b0 : decide (x7_2 < (t149.length : Int)) = false := decide_eq_false c14
                    clear c14
                    (try (have c14b0h := c14b0; simp only [hl3_1, hl3_2] at c14b0h))
                    (try (have c14b1h := c14b1; simp only [hl3_1, hl3_2] at c14b1h))
                    have H' := Aside0.mk H
                    clear H
                    obtain ⟨Ao23, co23, eo23⟩ := Kd.R_slice HO_4.out
                    subst eo23
                    go_wp2
                    (try simp only [← hl3_1, ← hl3_2])
                    go_roundg k2
                    case measure => have := HK1.out; have := HK2.out; omega
                    case rel => exact ⟨(x3_2), (wrap64 (x6_1 + 1)), (by first | rfl | (simp; done) | (simp [*]; done)), H', ⟨by have := HK1.out; have := HK2.out; omega⟩, ⟨by (try simp only [hl3_1]); (try simp only [hl3_2]); (with_reducible repeat (first | apply Kd.R_alloc | apply Kd.R_drewN | apply Kd.R_drew)); exact HO_3.out⟩, ⟨by (try simp only [hl3_1]); (try simp only [hl3_2]); (with_reducible repeat (first | apply Kd.R_alloc | apply Kd.R_drewN | apply Kd.R_drew)); exact HO_4.out⟩, ⟨by repeat (first | (with_reducible first | exact HB.out | apply below_alloc | apply pw_below_drewN | apply below_drew1) | exact HB.out)⟩⟩
          · rw [if_neg c9] at H
            exact absurd H (by simp)
        · rw [if_neg c8] at H
          exact absurd H (by simp)
      · rw [if_neg c7] at H
        have c7b0 : decide (x6_1 < (wrap64 ((t146.length : Int) - 32))) = false := decide_eq_false c7
        clear c7
        (try (have c7b0h := c7b0; simp only [hl3_1] at c7b0h))
        (try (have c7b1h := c7b1; simp only [hl3_1] at c7b1h))
        have H' := Aside0.mk H
        clear H
        go_wp2
        go_loopg [9, 10] k1 (fun kq v9 v10 w' => ∃ (x9_2 : Int) (x10_2 : Int), v9 = .int .u32 x9_2 ∧ v10 = .int .i64 x10_2 ∧ Aside0 (lictorref07_Sum.l2 kq x3_1 (wrap64 ((t146.length : Int) - 32)) x9_2 x10_2 = some r) ∧ Aside0 (kq ≤ k1) ∧ Aside0 (Kd.R (Kd.int .i64) 3 w' w.heap.size (fun _ => True) (.slice Ao6 x3_1.length co6) x3_1) ∧ Aside0 (Below w.heap.size w w'))
        case atStart => exact ⟨(0), (wrap64 ((x3_1.length : Int) - 1)), (by first | rfl | (simp; done) | (simp [*]; done)), (by first | rfl | (simp; done) | (simp [*]; done)), H', ⟨Nat.le_refl _⟩, ⟨by (try simp only [hl3_1]); (with_reducible repeat (first | apply Kd.R_alloc | apply Kd.R_drewN | apply Kd.R_drew)); exact Kd.R_mono HO_3.out (fun _ hk => trivial)⟩, ⟨by repeat (first | (with_reducible first | exact HB.out | apply below_alloc | apply pw_below_drewN | apply below_drew1) | exact HB.out)⟩⟩
        case round =>
          clear H'
          try clear c1
          try clear p1
          try clear q1
          try clear hx1
          try clear hf1
          try clear p2
          try clear p6
          try clear c7
          try clear c7b0
          try clear c7b1
          try clear c8
          try clear c8b0
          try clear c9
          try clear c9b0
          try clear c9b1
          try clear c10
          try clear c10b0
          try clear c10b1
          try clear c11
          try clear p11
          try clear q11
          try clear hx11
          try clear hf11
          try clear c14
          try clear c14b0
          try clear c14b1
          try clear c15
          try clear c15b0
          try clear p15
          try clear q15
          try clear hx15
          try clear c17
          try clear c17b0
          try clear c18
          try clear c18b0
          try clear c18b1
          try clear p19
          try clear q19
          try clear hx19
          try clear hf19
          try clear hx11_0
          try clear hx152_0
          try clear hx154_0
          try clear hx155_0
          try clear hx19_0
          try clear p1
          try clear p11
          try clear p152
          try clear p154
          try clear p155
          try clear p19
          try clear p2
          try clear p6
          try clear q1
          try clear q11
          try clear q152
          try clear q154
          try clear q155
          try clear q19
          obtain ⟨x9_2, x10_2, rfl, rfl, HA, HK2, HO_3, HB⟩ := hrel
          cases gk with
          | zero => exact absurd HA.out (by simp [lictorref07_Sum.l2])
          | succ k2 =>
            have H := HA.out
            clear HA
            simp only [lictorref07_Sum.l2] at H
            by_cases c24 : x10_2 ≥ (wrap64 ((t146.length : Int) - 32))
            · rw [if_pos c24] at H
              have c24b0 : decide ((wrap64 ((t146.length : Int) - 32)) ≤ x10_2) = true := decide_eq_true c24
              clear c24
              (try (have c24b0h := c24b0; simp only [hl3_1] at c24b0h))
              (try (have c24b1h := c24b1; simp only [hl3_1] at c24b1h))
              by_cases c25 : 0 ≤ x10_2
              · rw [if_pos c25] at H
                have c25b0 : decide (0 ≤ x10_2) = true := decide_eq_true c25
                clear c25
                by_cases c26 : x10_2 < (x3_1.length : Int)
                · rw [if_pos c26] at H
                  have c26b0 : decide (x10_2 < (x3_1.length : Int)) = true := decide_eq_true c26
                  clear c26
                  (try (have c26b0h := c26b0; simp only [hl3_1] at c26b0h))
                  (try (have c26b1h := c26b1; simp only [hl3_1] at c26b1h))
                  have H' := Aside0.mk H
                  clear H
                  have p157 : 0 ≤ (x10_2 : Int) := of_decide_eq_true (by first | (with_reducible assumption) | assumption)
                  have q157 : x10_2 < (x3_1.length : Int) := of_decide_eq_true (by first | (with_reducible assumption) | assumption)
                  obtain ⟨ad157, e157, hx157_0⟩ := Kd.at_int (Kd.R_reads' HO_3.out).2.2 x10_2 p157 q157
                  cases e157
                  replace p157 := eq_true p157
                  replace q157 := eq_true q157
                  go_wp2
                  go_roundg k2
                  case measure => have := HK1.out; have := HK2.out; omega
                  case rel => exact ⟨((((2 * x9_2) % 4294967296) + ((wrap64 (1 - (rd x3_1 x10_2))) % 4294967296)) % 4294967296), (wrap64 (x10_2 - 1)), (by first | rfl | (simp; done) | (simp [*]; done)), (by first | rfl | (simp; done) | (simp [*]; done)), H', ⟨by have := HK1.out; have := HK2.out; omega⟩, ⟨by (try simp only [hl3_1]); (with_reducible repeat (first | apply Kd.R_alloc | apply Kd.R_drewN | apply Kd.R_drew)); exact HO_3.out⟩, ⟨by repeat (first | (with_reducible first | exact HB.out | apply below_alloc | apply pw_below_drewN | apply below_drew1) | exact HB.out)⟩⟩
                · rw [if_neg c26] at H
                  exact absurd H (by simp)
              · rw [if_neg c25] at H
                exact absurd H (by simp)
            · rw [if_neg c24] at H
              have c24b0 : decide ((wrap64 ((t146.length : Int) - 32)) ≤ x10_2) = false := decide_eq_false c24
              clear c24
              (try (have c24b0h := c24b0; simp only [hl3_1] at c24b0h))
              (try (have c24b1h := c24b1; simp only [hl3_1] at c24b1h))
              obtain rfl := Option.some.inj H
              go_wp2
              go_ret
              exact ⟨by first | rfl | (simp [errW_none, errW_some] <;> rfl) | (simp [*, errW_none, errW_some] <;> rfl), by repeat (first | (with_reducible first | exact HB.out | apply below_alloc | apply pw_below_drewN | apply below_drew1) | exact HB.out)⟩

end Go.Proofs.Ytcfakoocldahaaa.PFrameTells
