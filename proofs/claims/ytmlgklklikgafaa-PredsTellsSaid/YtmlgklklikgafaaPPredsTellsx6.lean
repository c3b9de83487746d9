-- Written by a program of this session, which is the kit's print with hand-given functions (wip/tools/mkprint.py).
import Derived.Test.YtmlgklklikgafaaPPredsTellsx0
import Derived.Test.YtmlgklklikgafaaPPredsTellsx1
import Derived.Test.YtmlgklklikgafaaPPredsTellsx2
import Derived.Test.YtmlgklklikgafaaPPredsTellsx3
import Derived.Test.YtmlgklklikgafaaPPredsTellsx5
namespace Go.Proofs.Ytmlgklklikgafaa.PPredsTells
open Go.RowKit Go.Proofs.YtmlgklklikgafaaW.PrintWords Go.Proofs.YtmlgklklikgafaaW.PrintLast Go.Proofs.YtmlgklklikgafaaW.PrintMore
attribute [local go_sem] max2_int min2_int max_two min_two max_three min_three max_four min_four   -- for this text's walks alone
set_option linter.unusedVariables false
set_option linter.unusedSimpArgs false

/-! ### api_Cmd_34: function 34 -/
mutual
def api_Cmd_34.l0 : Nat → List (S32) → Int → Int → Int → Int → Int → Option ((List (S32)))
  | 0, _, _, _, _, _, _ => none
  | k + 1, x0, x1, x2, x6, x7, x8 => if x8 ≤ x1 then ((api_Cmd_39.f k x0 x7 x8 x2).bind fun t183 => (api_Cmd_34.l0 k t183 x1 x2 x6 x8 (wrap64 (x8 + x6)))) else ((api_Cmd_39.f k x0 x7 x1 x2).bind fun t184 => (api_Cmd_34.l1 k t184 x1 x2 x6))
def api_Cmd_34.l1 : Nat → List (S32) → Int → Int → Int → Option ((List (S32)))
  | 0, _, _, _, _ => none
  | k + 1, x0, x1, x2, x6 => if x6 < x1 then (api_Cmd_34.l2 k x0 x1 x2 x6 0 (wrap64 (2 * x6))) else (some x0)
def api_Cmd_34.l2 : Nat → List (S32) → Int → Int → Int → Int → Int → Option ((List (S32)))
  | 0, _, _, _, _, _, _ => none
  | k + 1, x0, x1, x2, x6, x7, x8 => if x8 ≤ x1 then ((api_Cmd_40.f k x0 x7 (wrap64 (x7 + x6)) x8 x2).bind fun t185 => (api_Cmd_34.l2 k t185 x1 x2 x6 x8 (wrap64 (x8 + (wrap64 (2 * x6)))))) else (if (wrap64 (x7 + x6)) < x1 then ((api_Cmd_40.f k x0 x7 (wrap64 (x7 + x6)) x1 x2).bind fun t186 => (api_Cmd_34.l1 k t186 x1 x2 (wrap64 (x6 * 2)))) else (api_Cmd_34.l1 k x0 x1 x2 (wrap64 (x6 * 2))))
end
def api_Cmd_34.f (k : Nat) (l0 : List (S32)) (a1 : Int) (a2 : Int) : Option ((List (S32))) := api_Cmd_34.l0 k l0 a1 a2 20 0 20
theorem api_Cmd_34.mono_l : ∀ k, (∀ y0 y1 y2 y3 y4 y5, LeO (api_Cmd_34.l0 k y0 y1 y2 y3 y4 y5) (api_Cmd_34.l0 (k + 1) y0 y1 y2 y3 y4 y5)) ∧ (∀ y0 y1 y2 y3, LeO (api_Cmd_34.l1 k y0 y1 y2 y3) (api_Cmd_34.l1 (k + 1) y0 y1 y2 y3)) ∧ (∀ y0 y1 y2 y3 y4 y5, LeO (api_Cmd_34.l2 k y0 y1 y2 y3 y4 y5) (api_Cmd_34.l2 (k + 1) y0 y1 y2 y3 y4 y5))
  | 0 => ⟨fun _ _ _ _ _ _ r h => by simp [api_Cmd_34.l0] at h, fun _ _ _ _ r h => by simp [api_Cmd_34.l1] at h, fun _ _ _ _ _ _ r h => by simp [api_Cmd_34.l2] at h⟩
  | k + 1 => by
    obtain ⟨ih0, ih1, ih2⟩ := api_Cmd_34.mono_l k
    refine ⟨?_, ?_, ?_⟩
    · intro y0 y1 y2 y3 y4 y5
      unfold api_Cmd_34.l0
      repeat' first
      | (with_reducible exact ih0 _ _ _ _ _ _)
      | (with_reducible exact ih1 _ _ _ _)
      | (with_reducible exact ih2 _ _ _ _ _ _)
      | (with_reducible exact api_Cmd_39.mono _ _ _ _ _)
      | (with_reducible exact api_Cmd_40.mono _ _ _ _ _ _)
      | (with_reducible exact LeO.refl _)
      | (with_reducible exact LeO.none _)
      | (with_reducible refine LeO.ite ?_ ?_)
      | (with_reducible refine LeO.bind ?_ (fun _ => ?_))
      | exact ih0 _ _ _ _ _ _
      | exact ih1 _ _ _ _
      | exact ih2 _ _ _ _ _ _
      | exact api_Cmd_39.mono _ _ _ _ _
      | exact api_Cmd_40.mono _ _ _ _ _ _
      | exact LeO.none _
      | refine LeO.ite ?_ ?_
      | refine LeO.bind ?_ (fun _ => ?_)
    · intro y0 y1 y2 y3
      unfold api_Cmd_34.l1
      repeat' first
      | (with_reducible exact ih0 _ _ _ _ _ _)
      | (with_reducible exact ih1 _ _ _ _)
      | (with_reducible exact ih2 _ _ _ _ _ _)
      | (with_reducible exact api_Cmd_39.mono _ _ _ _ _)
      | (with_reducible exact api_Cmd_40.mono _ _ _ _ _ _)
      | (with_reducible exact LeO.refl _)
      | (with_reducible exact LeO.none _)
      | (with_reducible refine LeO.ite ?_ ?_)
      | (with_reducible refine LeO.bind ?_ (fun _ => ?_))
      | exact ih0 _ _ _ _ _ _
      | exact ih1 _ _ _ _
      | exact ih2 _ _ _ _ _ _
      | exact api_Cmd_39.mono _ _ _ _ _
      | exact api_Cmd_40.mono _ _ _ _ _ _
      | exact LeO.none _
      | refine LeO.ite ?_ ?_
      | refine LeO.bind ?_ (fun _ => ?_)
    · intro y0 y1 y2 y3 y4 y5
      unfold api_Cmd_34.l2
      repeat' first
      | (with_reducible exact ih0 _ _ _ _ _ _)
      | (with_reducible exact ih1 _ _ _ _)
      | (with_reducible exact ih2 _ _ _ _ _ _)
      | (with_reducible exact api_Cmd_39.mono _ _ _ _ _)
      | (with_reducible exact api_Cmd_40.mono _ _ _ _ _ _)
      | (with_reducible exact LeO.refl _)
      | (with_reducible exact LeO.none _)
      | (with_reducible refine LeO.ite ?_ ?_)
      | (with_reducible refine LeO.bind ?_ (fun _ => ?_))
      | exact ih0 _ _ _ _ _ _
      | exact ih1 _ _ _ _
      | exact ih2 _ _ _ _ _ _
      | exact api_Cmd_39.mono _ _ _ _ _
      | exact api_Cmd_40.mono _ _ _ _ _ _
      | exact LeO.none _
      | refine LeO.ite ?_ ?_
      | refine LeO.bind ?_ (fun _ => ?_)
theorem api_Cmd_34.mono : ∀ a0 a1 a2 k, LeO (api_Cmd_34.f k a0 a1 a2) (api_Cmd_34.f (k + 1) a0 a1 a2) := by
  intro a0 a1 a2 k
  obtain ⟨ih0, ih1, ih2⟩ := api_Cmd_34.mono_l k
  unfold api_Cmd_34.f
  repeat' first
      | (with_reducible exact ih0 _ _ _ _ _ _)
      | (with_reducible exact ih1 _ _ _ _)
      | (with_reducible exact ih2 _ _ _ _ _ _)
      | (with_reducible exact api_Cmd_39.mono _ _ _ _ _)
      | (with_reducible exact api_Cmd_40.mono _ _ _ _ _ _)
      | (with_reducible exact LeO.refl _)
      | (with_reducible exact LeO.none _)
      | (with_reducible refine LeO.ite ?_ ?_)
      | (with_reducible refine LeO.bind ?_ (fun _ => ?_))
      | exact ih0 _ _ _ _ _ _
      | exact ih1 _ _ _ _
      | exact ih2 _ _ _ _ _ _
      | exact api_Cmd_39.mono _ _ _ _ _
      | exact api_Cmd_40.mono _ _ _ _ _ _
      | exact LeO.none _
      | refine LeO.ite ?_ ?_
      | refine LeO.bind ?_ (fun _ => ?_)
set_option maxHeartbeats 8000000 in
set_option maxRecDepth 100000 in
theorem api_Cmd_34.calls (k : Nat) (P0_ : Nat → Prop) (u9000_ : Value) (l0 : List (S32)) (a1 : Int) (a2 : Int) (r : List (S32)) (w0 w : World) (hB : Below w0.heap.size w0 w) (ho0 : Kd.R k32 32 w w0.heap.size P0_ u9000_ l0) (h : api_Cmd_34.f k l0 a1 a2 = some r) :
    Calls Try.prog 34 #[u9000_, .int .i64 a1, .func (.func 26) #[] #[]] w fun e w' => e = .returned (.tuple #[]) ∧ Kd.R k32 32 w' w0.heap.size (fun k_ => (P0_ k_ ∨ w.heap.size ≤ k_)) u9000_ r ∧ Below w0.heap.size w0 w' ∧ Kept w w' (fun k_ => P0_ k_) := by
  have HO0 := Aside0.mk (show Kd.R k32 32 w w0.heap.size (fun k_ => (P0_ k_ ∨ w.heap.size ≤ k_)) u9000_ l0 from Kd.R_mono ho0 (fun k_ hk => (.inl hk)))
  have HK := Aside0.mk (Kept.refl w (fun k_ => P0_ k_))
  have HW0 := Aside0.mk hB.size
  have HB := Aside0.mk hB
  clear hB
  have H : (api_Cmd_34.l0 k l0 a1 a2 20 0 20) = some r := h
  clear h
  have H' := Aside0.mk H
  clear H
  go_enter Try.func34, Try.ntmps34
  go_wp2
  go_loopg [7, 8] k (fun kq v7 v8 w' => ∃ (x0_1 : List (S32)) (x7_1 : Int) (x8_1 : Int), v7 = .int .i64 x7_1 ∧ v8 = .int .i64 x8_1 ∧ Aside0 (api_Cmd_34.l0 kq x0_1 a1 a2 20 x7_1 x8_1 = some r) ∧ Aside0 (kq ≤ k) ∧ Aside0 (Kd.R k32 32 w' w0.heap.size (fun k_ => (P0_ k_ ∨ w.heap.size ≤ k_)) u9000_ x0_1) ∧ Aside0 (Kept w w' (fun k_ => P0_ k_)) ∧ Aside0 (Below w0.heap.size w0 w'))
  case atStart => exact ⟨(l0), (0), (20), (by first | rfl | (simp; done) | (simp [*]; done)), (by first | rfl | (simp; done) | (simp [*]; done)), H', ⟨Nat.le_refl _⟩, ⟨by (with_reducible repeat (first | apply Kd.R_alloc | apply Kd.R_drewN | apply Kd.R_drew)); exact HO0.out⟩, ⟨by repeat (first | (with_reducible first | exact HK.out | apply Kept.alloc | apply Kept.drewN | apply Kept.drew) | exact HK.out)⟩, ⟨by repeat (first | (with_reducible first | exact HB.out | apply below_alloc | apply pw_below_drewN | apply below_drew1) | exact HB.out)⟩⟩
  case round =>
    clear H'
    try clear p2
    try clear c3
    obtain ⟨x0_1, x7_1, x8_1, rfl, rfl, HA, HK1, HO_0, HK, HB⟩ := hrel
    cases gk with
    | zero => exact absurd HA.out (by simp [api_Cmd_34.l0])
    | succ k1 =>
      have H := HA.out
      clear HA
      simp only [api_Cmd_34.l0] at H
      by_cases c4 : x8_1 ≤ a1
      · rw [if_pos c4] at H
        have c4b0 : decide (x8_1 ≤ a1) = true := decide_eq_true c4
        clear c4
        replace H := Option.bind_eq_some_iff.mp H
        obtain ⟨t183, A50, H⟩ := H
        replace H : (api_Cmd_34.l0 k1 t183 a1 a2 20 x8_1 (wrap64 (x8_1 + 20))) = some r := H
        have A5 := Aside0.mk A50
        clear A50
        have H' := Aside0.mk H
        clear H
        obtain ⟨Ao6, co6, eo6⟩ := Kd.R_slice HO_0.out
        subst eo6
        go_wp2_with (first | ((with_reducible refine gate_callee (f := 39) rfl ?_); refine goesL_ (some 18) rfl rfl Try.func39 (by kernel_rfl) rfl #[.slice Ao6 x0_1.length co6, .int .i64 x7_1, .int .i64 x8_1, .func (.func 26) #[] #[]] rfl (by (try simp only [List.map_toArray, List.map_cons, List.map_nil]); first | done | rfl | (simp only [List.length_drop, List.length_take]; rfl)) ?_; (with_reducible refine (api_Cmd_39.calls k1 (fun k_ => some k_ = (.slice Ao6 x0_1.length co6 : Value).ownBlock) (.slice Ao6 x0_1.length co6) x0_1 x7_1 x8_1 a2 t183 w0 _ ?side1 ?side2 A5.out).mono ?_); (case side1 => repeat (first | (with_reducible first | exact HB.out | apply below_alloc | apply pw_below_drewN | apply below_drew1) | exact HB.out)); (case side2 => exact Kd.R_tight rfl HO_0.out); rintro e w7 ⟨rfl, hy0, hb, hkp⟩; refine ⟨_, rfl, ?_⟩; have n0_ := Aside0.mk (Kd.R_reok rfl hy0 (fun k_ e_ => HO_0.out.1 k_ e_)); have n1_ := Aside0.mk (Kept.then_ (S := (fun k_ => P0_ k_)) (by repeat (first | (with_reducible first | exact HK.out | apply Kept.alloc | apply Kept.drewN | apply Kept.drew) | exact HK.out)) hkp (fun k_ hs_ => (fun e_ => (HO_0.out.1 k_ e_.symm)) hs_)); have n2_ := Aside0.mk (hb); clear HO_0; clear HK; clear HB; have HO_0 := n0_; have HK := n1_; have HB := n2_; clear n0_ n1_ n2_; (try clear hb); (try clear hkp); (try clear hy0)))
        go_roundg k1
        case measure => have := HK1.out; omega
        case rel => exact ⟨(t183), (x8_1), (wrap64 (x8_1 + 20)), (by first | rfl | (simp; done) | (simp [*]; done)), (by first | rfl | (simp; done) | (simp [*]; done)), H', ⟨by have := HK1.out; omega⟩, ⟨by (with_reducible repeat (first | apply Kd.R_alloc | apply Kd.R_drewN | apply Kd.R_drew)); exact HO_0.out⟩, ⟨by repeat (first | (with_reducible first | exact HK.out | apply Kept.alloc | apply Kept.drewN | apply Kept.drew) | exact HK.out)⟩, ⟨by repeat (first | (with_reducible first | exact HB.out | apply below_alloc | apply pw_below_drewN | apply below_drew1) | exact HB.out)⟩⟩
      · rw [if_neg c4] at H
        have c4b0 : decide (x8_1 ≤ a1) = false := decide_eq_false c4
        clear c4
        replace H := Option.bind_eq_some_iff.mp H
        obtain ⟨t184, A80, H⟩ := H
        replace H : (api_Cmd_34.l1 k1 t184 a1 a2 20) = some r := H
        have A8 := Aside0.mk A80
        clear A80
        have H' := Aside0.mk H
        clear H
        obtain ⟨Ao9, co9, eo9⟩ := Kd.R_slice HO_0.out
        subst eo9
        go_wp2_with (first | ((with_reducible refine gate_callee (f := 39) rfl ?_); refine goesL_ (some 27) rfl rfl Try.func39 (by kernel_rfl) rfl #[.slice Ao9 x0_1.length co9, .int .i64 x7_1, .int .i64 a1, .func (.func 26) #[] #[]] rfl (by (try simp only [List.map_toArray, List.map_cons, List.map_nil]); first | done | rfl | (simp only [List.length_drop, List.length_take]; rfl)) ?_; (with_reducible refine (api_Cmd_39.calls k1 (fun k_ => some k_ = (.slice Ao9 x0_1.length co9 : Value).ownBlock) (.slice Ao9 x0_1.length co9) x0_1 x7_1 a1 a2 t184 w0 _ ?side1 ?side2 A8.out).mono ?_); (case side1 => repeat (first | (with_reducible first | exact HB.out | apply below_alloc | apply pw_below_drewN | apply below_drew1) | exact HB.out)); (case side2 => exact Kd.R_tight rfl HO_0.out); rintro e w10 ⟨rfl, hy0, hb, hkp⟩; refine ⟨_, rfl, ?_⟩; have n0_ := Aside0.mk (Kd.R_reok rfl hy0 (fun k_ e_ => HO_0.out.1 k_ e_)); have n1_ := Aside0.mk (Kept.then_ (S := (fun k_ => P0_ k_)) (by repeat (first | (with_reducible first | exact HK.out | apply Kept.alloc | apply Kept.drewN | apply Kept.drew) | exact HK.out)) hkp (fun k_ hs_ => (fun e_ => (HO_0.out.1 k_ e_.symm)) hs_)); have n2_ := Aside0.mk (hb); clear HO_0; clear HK; clear HB; have HO_0 := n0_; have HK := n1_; have HB := n2_; clear n0_ n1_ n2_; (try clear hb); (try clear hkp); (try clear hy0)))
        try simp only [Act.put, List.setIfInBounds_toArray, List.set_cons_zero, List.set_cons_succ]
        go_loopg [6] k1 (fun kq v6 w' => ∃ (x0_2 : List (S32)) (x6_2 : Int), v6 = .int .i64 x6_2 ∧ Aside0 (api_Cmd_34.l1 kq x0_2 a1 a2 x6_2 = some r) ∧ Aside0 (kq ≤ k1) ∧ Aside0 (Kd.R k32 32 w' w0.heap.size (fun k_ => (P0_ k_ ∨ w.heap.size ≤ k_)) (.slice Ao9 x0_1.length co9) x0_2) ∧ Aside0 (Kept w w' (fun k_ => P0_ k_)) ∧ Aside0 (Below w0.heap.size w0 w'))
        case atStart => exact ⟨(t184), (20), (by first | rfl | (simp; done) | (simp [*]; done)), H', ⟨Nat.le_refl _⟩, ⟨by (with_reducible repeat (first | apply Kd.R_alloc | apply Kd.R_drewN | apply Kd.R_drew)); exact HO_0.out⟩, ⟨by repeat (first | (with_reducible first | exact HK.out | apply Kept.alloc | apply Kept.drewN | apply Kept.drew) | exact HK.out)⟩, ⟨by repeat (first | (with_reducible first | exact HB.out | apply below_alloc | apply pw_below_drewN | apply below_drew1) | exact HB.out)⟩⟩
        case round =>
          clear H'
          try clear p2
          try clear c3
          try clear c4
          try clear c4b0
          try clear p6
          try clear p2
          obtain ⟨x0_2, x6_2, rfl, HA, HK2, HO_0, HK, HB⟩ := hrel
          have hl0_2 := (Kd.R_reads' HO_0.out).1
          rw [hl0_2] at HO_0
          (try simp only [hl0_2])
          cases gk with
          | zero => exact absurd HA.out (by simp [api_Cmd_34.l1])
          | succ k2 =>
            have H := HA.out
            clear HA
            simp only [api_Cmd_34.l1] at H
            by_cases c11 : x6_2 < a1
            · rw [if_pos c11] at H
              have c11b0 : decide (x6_2 < a1) = true := decide_eq_true c11
              clear c11
              have H' := Aside0.mk H
              clear H
              go_wp2
              go_loopg [7, 8] k2 (fun kq v7 v8 w' => ∃ (x0_3 : List (S32)) (x7_3 : Int) (x8_3 : Int), v7 = .int .i64 x7_3 ∧ v8 = .int .i64 x8_3 ∧ Aside0 (api_Cmd_34.l2 kq x0_3 a1 a2 x6_2 x7_3 x8_3 = some r) ∧ Aside0 (kq ≤ k2) ∧ Aside0 (Kd.R k32 32 w' w0.heap.size (fun k_ => (P0_ k_ ∨ w.heap.size ≤ k_)) (.slice Ao9 x0_2.length co9) x0_3) ∧ Aside0 (Kept w w' (fun k_ => P0_ k_)) ∧ Aside0 (Below w0.heap.size w0 w'))
              case atStart => exact ⟨(x0_2), (0), (wrap64 (2 * x6_2)), (by first | rfl | (simp; done) | (simp [*]; done)), (by first | rfl | (simp; done) | (simp [*]; done)), H', ⟨Nat.le_refl _⟩, ⟨by (try simp only [hl0_2]); (with_reducible repeat (first | apply Kd.R_alloc | apply Kd.R_drewN | apply Kd.R_drew)); exact HO_0.out⟩, ⟨by repeat (first | (with_reducible first | exact HK.out | apply Kept.alloc | apply Kept.drewN | apply Kept.drew) | exact HK.out)⟩, ⟨by repeat (first | (with_reducible first | exact HB.out | apply below_alloc | apply pw_below_drewN | apply below_drew1) | exact HB.out)⟩⟩
              case round =>
                clear H'
                try clear c1
                try clear p2
                try clear c3
                try clear c4
                try clear c4b0
                try clear p6
                try clear c11
                try clear c11b0
                try clear p2
                try clear p6
                obtain ⟨x0_3, x7_3, x8_3, rfl, rfl, HA, HK3, HO_0, HK, HB⟩ := hrel
                have hl0_3 := (Kd.R_reads' HO_0.out).1
                rw [hl0_3] at HO_0
                (try simp only [hl0_3])
                cases gk with
                | zero => exact absurd HA.out (by simp [api_Cmd_34.l2])
                | succ k3 =>
                  have H := HA.out
                  clear HA
                  simp only [api_Cmd_34.l2] at H
                  by_cases c12 : x8_3 ≤ a1
                  · rw [if_pos c12] at H
                    have c12b0 : decide (x8_3 ≤ a1) = true := decide_eq_true c12
                    clear c12
                    replace H := Option.bind_eq_some_iff.mp H
                    obtain ⟨t185, A130, H⟩ := H
                    replace H : (api_Cmd_34.l2 k3 t185 a1 a2 x6_2 x8_3 (wrap64 (x8_3 + (wrap64 (2 * x6_2))))) = some r := H
                    have A13 := Aside0.mk A130
                    clear A130
                    have H' := Aside0.mk H
                    clear H
                    go_wp2_with (first | ((with_reducible refine gate_callee (f := 40) rfl ?_); refine goesL_ (some 43) rfl rfl Try.func40 (by kernel_rfl) rfl #[.slice Ao9 x0_3.length co9, .int .i64 x7_3, .int .i64 (wrap64 (x7_3 + x6_2)), .int .i64 x8_3, .func (.func 26) #[] #[]] rfl (by (try simp only [List.map_toArray, List.map_cons, List.map_nil]); first | done | rfl | (simp only [List.length_drop, List.length_take]; rfl)) ?_; (with_reducible refine (api_Cmd_40.calls k3 (fun k_ => some k_ = (.slice Ao9 x0_3.length co9 : Value).ownBlock) (.slice Ao9 x0_3.length co9) x0_3 x7_3 (wrap64 (x7_3 + x6_2)) x8_3 a2 t185 w0 _ ?side1 ?side2 A13.out).mono ?_); (case side1 => repeat (first | (with_reducible first | exact HB.out | apply below_alloc | apply pw_below_drewN | apply below_drew1) | exact HB.out)); (case side2 => exact Kd.R_tight rfl HO_0.out); rintro e w14 ⟨rfl, hy0, hb, hkp⟩; refine ⟨_, rfl, ?_⟩; have n0_ := Aside0.mk (Kd.R_reok rfl hy0 (fun k_ e_ => HO_0.out.1 k_ e_)); have n1_ := Aside0.mk (Kept.then_ (S := (fun k_ => P0_ k_)) (by repeat (first | (with_reducible first | exact HK.out | apply Kept.alloc | apply Kept.drewN | apply Kept.drew) | exact HK.out)) hkp (fun k_ hs_ => (fun e_ => (HO_0.out.1 k_ e_.symm)) hs_)); have n2_ := Aside0.mk (hb); clear HO_0; clear HK; clear HB; have HO_0 := n0_; have HK := n1_; have HB := n2_; clear n0_ n1_ n2_; (try clear hb); (try clear hkp); (try clear hy0)))
                    (try simp only [← hl0_3])
                    go_roundg k3
                    case measure => have := HK1.out; have := HK2.out; have := HK3.out; omega
                    case rel => exact ⟨(t185), (x8_3), (wrap64 (x8_3 + (wrap64 (2 * x6_2)))), (by first | rfl | (simp; done) | (simp [*]; done)), (by first | rfl | (simp; done) | (simp [*]; done)), H', ⟨by have := HK1.out; have := HK2.out; have := HK3.out; omega⟩, ⟨by (try simp only [hl0_2]); (try simp only [hl0_3]); (with_reducible repeat (first | apply Kd.R_alloc | apply Kd.R_drewN | apply Kd.R_drew)); exact HO_0.out⟩, ⟨by repeat (first | (with_reducible first | exact HK.out | apply Kept.alloc | apply Kept.drewN | apply Kept.drew) | exact HK.out)⟩, ⟨by repeat (first | (with_reducible first | exact HB.out | apply below_alloc | apply pw_below_drewN | apply below_drew1) | exact HB.out)⟩⟩
                  · rw [if_neg c12] at H
                    have c12b0 : decide (x8_3 ≤ a1) = false := decide_eq_false c12
                    clear c12
                    by_cases c15 : (wrap64 (x7_3 + x6_2)) < a1
                    · rw [if_pos c15] at H
                      have c15b0 : decide ((wrap64 (x7_3 + x6_2)) < a1) = true := decide_eq_true c15
                      clear c15
                      replace H := Option.bind_eq_some_iff.mp H
                      obtain ⟨t186, A160, H⟩ := H
                      replace H : (api_Cmd_34.l1 k3 t186 a1 a2 (wrap64 (x6_2 * 2))) = some r := H
                      have A16 := Aside0.mk A160
                      clear A160
                      have H' := Aside0.mk H
                      clear H
                      go_wp2_with (first | ((with_reducible refine gate_callee (f := 40) rfl ?_); refine goesL_ (some 60) rfl rfl Try.func40 (by kernel_rfl) rfl #[.slice Ao9 x0_3.length co9, .int .i64 x7_3, .int .i64 (wrap64 (x7_3 + x6_2)), .int .i64 a1, .func (.func 26) #[] #[]] rfl (by (try simp only [List.map_toArray, List.map_cons, List.map_nil]); first | done | rfl | (simp only [List.length_drop, List.length_take]; rfl)) ?_; (with_reducible refine (api_Cmd_40.calls k3 (fun k_ => some k_ = (.slice Ao9 x0_3.length co9 : Value).ownBlock) (.slice Ao9 x0_3.length co9) x0_3 x7_3 (wrap64 (x7_3 + x6_2)) a1 a2 t186 w0 _ ?side1 ?side2 A16.out).mono ?_); (case side1 => repeat (first | (with_reducible first | exact HB.out | apply below_alloc | apply pw_below_drewN | apply below_drew1) | exact HB.out)); (case side2 => exact Kd.R_tight rfl HO_0.out); rintro e w17 ⟨rfl, hy0, hb, hkp⟩; refine ⟨_, rfl, ?_⟩; have n0_ := Aside0.mk (Kd.R_reok rfl hy0 (fun k_ e_ => HO_0.out.1 k_ e_)); have n1_ := Aside0.mk (Kept.then_ (S := (fun k_ => P0_ k_)) (by repeat (first | (with_reducible first | exact HK.out | apply Kept.alloc | apply Kept.drewN | apply Kept.drew) | exact HK.out)) hkp (fun k_ hs_ => (fun e_ => (HO_0.out.1 k_ e_.symm)) hs_)); have n2_ := Aside0.mk (hb); clear HO_0; clear HK; clear HB; have HO_0 := n0_; have HK := n1_; have HB := n2_; clear n0_ n1_ n2_; (try clear hb); (try clear hkp); (try clear hy0)))
                      (try simp only [← hl0_2, ← hl0_3])
                      go_roundg k3
                      case measure => have := HK1.out; have := HK2.out; have := HK3.out; omega
                      case rel => exact ⟨(t186), (wrap64 (x6_2 * 2)), (by first | rfl | (simp; done) | (simp [*]; done)), H', ⟨by have := HK1.out; have := HK2.out; have := HK3.out; omega⟩, ⟨by (try simp only [hl0_2]); (try simp only [hl0_3]); (with_reducible repeat (first | apply Kd.R_alloc | apply Kd.R_drewN | apply Kd.R_drew)); exact HO_0.out⟩, ⟨by repeat (first | (with_reducible first | exact HK.out | apply Kept.alloc | apply Kept.drewN | apply Kept.drew) | exact HK.out)⟩, ⟨by repeat (first | (with_reducible first | exact HB.out | apply below_alloc | apply pw_below_drewN | apply below_drew1) | exact HB.out)⟩⟩
                    · rw [if_neg c15] at H
                      have c15b0 : decide ((wrap64 (x7_3 + x6_2)) < a1) = false := decide_eq_false c15
                      clear c15
                      have H' := Aside0.mk H
                      clear H
                      go_wp2
                      (try simp only [← hl0_2, ← hl0_3])
                      go_roundg k3
                      case measure => have := HK1.out; have := HK2.out; have := HK3.out; omega
                      case rel => exact ⟨(x0_3), (wrap64 (x6_2 * 2)), (by first | rfl | (simp; done) | (simp [*]; done)), H', ⟨by have := HK1.out; have := HK2.out; have := HK3.out; omega⟩, ⟨by (try simp only [hl0_2]); (try simp only [hl0_3]); (with_reducible repeat (first | apply Kd.R_alloc | apply Kd.R_drewN | apply Kd.R_drew)); exact HO_0.out⟩, ⟨by repeat (first | (with_reducible first | exact HK.out | apply Kept.alloc | apply Kept.drewN | apply Kept.drew) | exact HK.out)⟩, ⟨by repeat (first | (with_reducible first | exact HB.out | apply below_alloc | apply pw_below_drewN | apply below_drew1) | exact HB.out)⟩⟩
            · rw [if_neg c11] at H
              have c11b0 : decide (x6_2 < a1) = false := decide_eq_false c11
              clear c11
              obtain rfl := Option.some.inj H
              go_wp2
              first | go_end0 | ((try simp only [Exit.inBlock, Exit.then]); refine bodyPost_ret (results_none rfl _ _ _) rfl ?_)
              exact ⟨by first | rfl | (simp [errW_none, errW_some] <;> rfl) | (simp [*, errW_none, errW_some] <;> rfl), (by first | exact (by (with_reducible repeat (first | apply Kd.R_alloc | apply Kd.R_drewN | apply Kd.R_drew)); exact HO_0.out) | (simp only [hl0_2]; exact (by (with_reducible repeat (first | apply Kd.R_alloc | apply Kd.R_drewN | apply Kd.R_drew)); exact HO_0.out))), by repeat (first | (with_reducible first | exact HB.out | apply below_alloc | apply pw_below_drewN | apply below_drew1) | exact HB.out), by repeat (first | (with_reducible first | exact HK.out | apply Kept.alloc | apply Kept.drewN | apply Kept.drew) | exact HK.out)⟩

/-! ### api_Cmd_25: function 25 -/
def api_Cmd_25.f (k : Nat) (l0 : List (S32)) (a1 : Int) : Option ((List (S32))) := (api_Cmd_34.f k l0 (l0.length : Int) a1).bind fun t187 => (some t187)
theorem api_Cmd_25.mono : ∀ a0 a1 k, LeO (api_Cmd_25.f k a0 a1) (api_Cmd_25.f (k + 1) a0 a1) := by
  intro a0 a1 k
  unfold api_Cmd_25.f
  repeat' first
      | (with_reducible exact api_Cmd_34.mono _ _ _ _)
      | (with_reducible exact LeO.refl _)
      | (with_reducible exact LeO.none _)
      | (with_reducible refine LeO.ite ?_ ?_)
      | (with_reducible refine LeO.bind ?_ (fun _ => ?_))
      | exact api_Cmd_34.mono _ _ _ _
      | exact LeO.none _
      | refine LeO.ite ?_ ?_
      | refine LeO.bind ?_ (fun _ => ?_)
set_option maxHeartbeats 8000000 in
set_option maxRecDepth 100000 in
theorem api_Cmd_25.calls (k : Nat) (P0_ : Nat → Prop) (u9000_ : Value) (l0 : List (S32)) (a1 : Int) (r : List (S32)) (w0 w : World) (hB : Below w0.heap.size w0 w) (ho0 : Kd.R k32 32 w w0.heap.size P0_ u9000_ l0) (h : api_Cmd_25.f k l0 a1 = some r) :
    Calls Try.prog 25 #[u9000_, .func (.func 26) #[] #[]] w fun e w' => e = .returned (.tuple #[]) ∧ Kd.R k32 32 w' w0.heap.size (fun k_ => (P0_ k_ ∨ w.heap.size ≤ k_)) u9000_ r ∧ Below w0.heap.size w0 w' ∧ Kept w w' (fun k_ => P0_ k_) := by
  have HO0 := Aside0.mk (show Kd.R k32 32 w w0.heap.size (fun k_ => (P0_ k_ ∨ w.heap.size ≤ k_)) u9000_ l0 from Kd.R_mono ho0 (fun k_ hk => (.inl hk)))
  have HK := Aside0.mk (Kept.refl w (fun k_ => P0_ k_))
  have HW0 := Aside0.mk hB.size
  have HB := Aside0.mk hB
  clear hB
  have H : ((api_Cmd_34.f k l0 (l0.length : Int) a1).bind fun t187 => (some t187)) = some r := h
  clear h
  replace H := Option.bind_eq_some_iff.mp H
  obtain ⟨t187, A30, H⟩ := H
  replace H : (some t187) = some r := H
  have A3 := Aside0.mk A30
  clear A30
  obtain rfl := Option.some.inj H
  obtain ⟨Ao4, co4, eo4⟩ := Kd.R_slice HO0.out
  subst eo4
  go_enter Try.func25, Try.ntmps25
  go_wp2_with (first | ((with_reducible refine gate_callee (f := 34) rfl ?_); refine goesL_ (some 8) rfl rfl Try.func34 (by kernel_rfl) rfl #[.slice Ao4 l0.length co4, .int .i64 (l0.length : Int), .func (.func 26) #[] #[]] rfl (by (try simp only [List.map_toArray, List.map_cons, List.map_nil]); first | done | rfl | (simp only [List.length_drop, List.length_take]; rfl)) ?_; (with_reducible refine (api_Cmd_34.calls k (fun k_ => some k_ = (.slice Ao4 l0.length co4 : Value).ownBlock) (.slice Ao4 l0.length co4) l0 (l0.length : Int) a1 t187 w0 _ ?side1 ?side2 A3.out).mono ?_); (case side1 => repeat (first | (with_reducible first | exact HB.out | apply below_alloc | apply pw_below_drewN | apply below_drew1) | exact HB.out)); (case side2 => exact Kd.R_tight rfl HO0.out); rintro e w5 ⟨rfl, hy0, hb, hkp⟩; refine ⟨_, rfl, ?_⟩; have n0_ := Aside0.mk (Kd.R_reok rfl hy0 (fun k_ e_ => HO0.out.1 k_ e_)); have n1_ := Aside0.mk (Kept.then_ (S := (fun k_ => P0_ k_)) (by repeat (first | (with_reducible first | exact HK.out | apply Kept.alloc | apply Kept.drewN | apply Kept.drew) | exact HK.out)) hkp (fun k_ hs_ => (fun e_ => (HO0.out.1 k_ e_.symm)) hs_)); have n2_ := Aside0.mk (hb); clear HO0; clear HK; clear HB; have HO0 := n0_; have HK := n1_; have HB := n2_; clear n0_ n1_ n2_; (try clear hb); (try clear hkp); (try clear hy0)))
  first | go_end0 | ((try simp only [Exit.inBlock, Exit.then]); refine bodyPost_ret (results_none rfl _ _ _) rfl ?_)
  exact ⟨by first | rfl | (simp [errW_none, errW_some] <;> rfl) | (simp [*, errW_none, errW_some] <;> rfl), by (with_reducible repeat (first | apply Kd.R_alloc | apply Kd.R_drewN | apply Kd.R_drew)); exact HO0.out, by repeat (first | (with_reducible first | exact HB.out | apply below_alloc | apply pw_below_drewN | apply below_drew1) | exact HB.out), by repeat (first | (with_reducible first | exact HK.out | apply Kept.alloc | apply Kept.drewN | apply Kept.drew) | exact HK.out)⟩

/-! ### api_Cmd_27: function 27 -/
theorem Kd.R_past {α : Type} {d : Kd α} {e base g m cap o : Nat} {ok : Nat → Prop} {W : World} {xs : List α} (h : d.R e W base ok (.slice (some ⟨g, 0, none⟩) m cap) xs) (vs : List Value) (ho : m * d.sz ≤ o) (hf : o + vs.length ≤ cap * d.sz) :
    d.R e (W.setCells g o vs) base ok (.slice (some ⟨g, 0, none⟩) m cap) xs ∧ W.grownBy (W.setCells g o vs) (some g) := by
  obtain ⟨hn, hnc, _⟩ := Kd.R_reads' h
  obtain ⟨hok, inner, ho', hr⟩ := h
  have hin : inner.length = m * d.sz := by rw [hr.1, hn]
  obtain ⟨ho1, ho2⟩ := ho'
  rcases ho2 with ⟨hv, _⟩ | ⟨g', cap', cur, hv, hb, hh, hnc', hcm, hcs, ht⟩
  · cases hv
  injection hv with ha _ hc
  injection ha with ha
  injection ha with hg
  subst hg; subst hc
  obtain ⟨cur', h3, h4, h5⟩ := setCells_row vs o W cur hh (by omega)
  obtain ⟨s1, s2, s3, s4⟩ := setCells_same g vs o W
  have hfar : ∀ k, k ≠ g → (W.setCells g o vs).heap[k]? = W.heap[k]? := fun k hk => setCells_far vs _ k hk
  refine ⟨⟨hok, inner, ⟨ho1, .inr ⟨g, cap, cur', by rw [hn], hb, h3, hnc', hcm, by rw [h4, hcs], ?_⟩⟩, ?_⟩, ⟨s1, s2, s3, by rw [s4]; exact Nat.le_refl _, fun k _ hk => hfar k (fun he => hk (by rw [he]))⟩⟩
  · rw [← ht, h5, ← hn, List.append_assoc, List.take_append_of_le_length (by rw [List.length_take, Array.length_toList]; have := hf; have := hcs; omega), List.take_take, Nat.min_eq_left ho]
  · exact ⟨hr.1, fun q p hq => d.M_move (fun k hk => hfar k (fun he => hk.2 (by rw [he]; simp [Value.ownBlock]))) (hr.2 q p hq)⟩
theorem zero_cells_length {z : Array Value} {n : Nat} : (Builtin.zeroCells z n).toList.length = n * z.size := by simp [Builtin.zeroCells]
theorem run_clear_row {P : Program} (w : World) (t e ty : TypeId) (z : Value) (ht : P.underlying t = some (.slice e)) (hv : ∀ w, (zeroValue e).run P w = .ok z w) (h1 : ∀ v ∈ z.cells, v.oneCell' = true) (b o n c : Nat) (hn : 0 < n) {cur : Array Value} {u : TypeId}
    (hh : w.heap[b]? = some (.cells cur u (0, 0))) (hf : o + n * z.cells.size ≤ cur.size) :
    (Builtin.clear_ #[t] ty #[.slice (some ⟨b, o, none⟩) n c]).run P w = .ok (.tuple #[]) (w.setCells b o (Builtin.zeroCells z.cells n).toList) := by
  have hl := zero_cells_length (z := z.cells) (n := n)
  have hst := run_storeCells_cells (P := P) b o (Builtin.zeroCells z.cells n).toList 0 w (fun j hj => by
      rw [Nat.add_zero, blk_cell hh, Array.getElem?_eq_getElem (by omega)]; rfl) (fun j hj => blk_frozen hh _) (fun v hv' => by
      by_cases hz : z.cells.size = 0
      · have : (Builtin.zeroCells z.cells n).toList = [] := List.length_eq_zero_iff.1 (by rw [hl, hz]; simp)
        rw [this] at hv'; cases hv'
      · simp only [Builtin.zeroCells, Array.toList_map, List.mem_map] at hv'
        obtain ⟨i, _, rfl⟩ := hv'
        have hlt : i % z.cells.size < z.cells.size := Nat.mod_lt _ (by omega)
        exact h1 _ (by rw [getElem!_pos z.cells _ hlt]; exact Array.getElem_mem hlt))
  simp only [Nat.add_zero] at hst
  obtain ⟨m, rfl⟩ : ∃ m, n = m + 1 := ⟨n - 1, by omega⟩
  simp [Builtin.clear_, run_underlying ht, hv, hst]
/-- One element of a row of one's own is laid over by another: the load, the run of stores, the row behind them. -/
theorem Kd.R_over1 {α : Type} {d : Kd α} {e base g n cap : Nat} {ok : Nat → Prop} {W : World} {xs : List α} (h : d.R e W base ok (.slice (some ⟨g, 0, none⟩) n cap) xs) (z : α) (i j : Int) (hi0 : 0 ≤ i) (hi1 : i < n) (hj0 : 0 ≤ j) (hj1 : j < n) :
    ∃ cj : List Value, cj.length = d.sz ∧ (∀ P, Sem.run P (loadCellsFrom ⟨g, j.toNat * d.sz, none⟩ 0 d.sz #[]) W = .ok cj.toArray W)
      ∧ (∀ P, Sem.run P (storeCells ⟨g, i.toNat * d.sz, none⟩ cj 0) W = .ok () (W.setCells g (i.toNat * d.sz) cj))
      ∧ d.R e (W.setCells g (i.toNat * d.sz) cj) base ok (.slice (some ⟨g, 0, none⟩) n cap) (xs.set i.toNat (xs.getD j.toNat z)) ∧ W.grownBy (W.setCells g (i.toNat * d.sz) cj) (some g) := by
  obtain ⟨ci, hil, hiM, hic, hif⟩ := Kd.R_elem h z i hi0 hi1
  obtain ⟨cj, hjl, hjM, hjc, hjf⟩ := Kd.R_elem h z j hj0 hj1
  have e1 : ci.take 0 ++ cj ++ ci.drop (0 + cj.length) = cj := by
    rw [List.take_zero, List.nil_append, Nat.zero_add, List.drop_of_length_le (by omega), List.append_nil]
  obtain ⟨h1, g1⟩ := Kd.R_seg (seg := cj) (j := 0) (x' := xs.getD j.toNat z) (okp := fun k => ok k ∧ k ≠ g) h i hi0 hi1 hil hic (by omega) (by rw [e1]; exact hjM) (fun k hk => hk)
  exact ⟨cj, hjl, fun P => loads_list_ P W _ cj _ hjl (fun c v hv => by rw [Addr.add_lit]; exact hjc c v hv), fun P => stores_list_ P W g _ ci cj (by omega) hic hif (d.K_one (d.K_of_M hjM)), h1, g1⟩
theorem Kd.R_cur {α : Type} {d : Kd α} {e base g n cap : Nat} {ok : Nat → Prop} {W : World} {xs : List α} (h : d.R e W base ok (.slice (some ⟨g, 0, none⟩) n cap) xs) : ∃ cur, W.heap[g]? = some (.cells cur e (0, 0)) ∧ cur.size = cap * d.sz := by
  obtain ⟨hok, inner, ho', hr⟩ := h
  obtain ⟨ho1, ho2⟩ := ho'
  rcases ho2 with ⟨hv, _⟩ | ⟨g', cap', cur, hv, hb, hh, hnc', hcm, hcs, ht⟩
  · cases hv
  injection hv with ha _ hc
  injection ha with ha
  injection ha with hg
  subst hg; subst hc
  exact ⟨cur, hh, hcs⟩
def sEq (x y : S32) : Bool := (x.f0 == y.f0 && (x.f1 == y.f1 && (x.f2 == y.f2 && (x.f3 == y.f3 && (x.f4 == y.f4 && (x.f5 == y.f5 && (x.f6 == y.f6)))))))
theorem sEq_iff {x y : S32} : sEq x y = true ↔ x = y := by
  cases x; cases y
  simp [sEq]
/-- The first one of each run of equal neighbours. -/
def dedupFrom : S32 → List S32 → List S32
  | _, [] => []
  | x, y :: l => if sEq y x = true then dedupFrom y l else y :: dedupFrom y l
def dedup : List S32 → List S32
  | [] => []
  | x :: l => x :: dedupFrom x l
theorem dedupFrom_len : ∀ (x : S32) (l : List S32), (dedupFrom x l).length ≤ l.length
  | _, [] => Nat.le_refl _
  | x, y :: l => by
    unfold dedupFrom
    split
    · have := dedupFrom_len y l; simp only [List.length_cons]; omega
    · have := dedupFrom_len y l; simp only [List.length_cons]; omega
theorem rd_drop {l : List S32} {k : Nat} (h : k < l.length) : l.drop k = rd_T32 l (k : Int) :: l.drop (k + 1) := by
  rw [List.drop_eq_getElem_cons h]
  congr 1
  unfold rd_T32
  rw [List.getD_eq_getElem?_getD, Int.toNat_natCast, List.getElem?_eq_getElem h]
  rfl
theorem take_set_succ {α : Type} {L : List α} {k : Nat} {x : α} (h : k < L.length) : (L.set k x).take (k + 1) = L.take k ++ [x] := by
  rw [List.take_add_one, List.getElem?_set_self h, List.take_set_of_le (Nat.le_refl k)]
  rfl
theorem dedup_step {l L : List S32} {m k : Nat} (hm : m + 1 < l.length + 1) (hm0 : 0 < m) (hlt : m < l.length) (hk : L.take k ++ dedupFrom (rd_T32 l ((m - 1 : Nat) : Int)) (l.drop m) = dedup l) :
    (sEq (rd_T32 l (m : Int)) (rd_T32 l ((m - 1 : Nat) : Int)) = true → L.take k ++ dedupFrom (rd_T32 l (m : Int)) (l.drop (m + 1)) = dedup l) ∧
    (sEq (rd_T32 l (m : Int)) (rd_T32 l ((m - 1 : Nat) : Int)) = false → k < L.length → (L.set k (rd_T32 l (m : Int))).take (k + 1) ++ dedupFrom (rd_T32 l (m : Int)) (l.drop (m + 1)) = dedup l) := by
  rw [rd_drop hlt, dedupFrom] at hk
  refine ⟨fun h => by rwa [if_pos h] at hk, fun h hkl => ?_⟩
  rw [if_neg (by rw [h]; decide)] at hk
  rw [← hk, take_set_succ hkl]
  simp
theorem take_rd {l : List S32} {k : Nat} (h : k < l.length) : l.take (k + 1) = l.take k ++ [rd_T32 l (k : Int)] := by
  rw [List.take_add_one]
  congr 1
  unfold rd_T32
  rw [List.getD_eq_getElem?_getD, Int.toNat_natCast, List.getElem?_eq_getElem h]
  rfl
def api_Cmd_27.f (l0 : List S32) : Option (List S32) := some (dedup l0)
attribute [local go_sem high] eqA32
set_option maxHeartbeats 8000000 in
set_option maxRecDepth 100000 in
theorem compactC.calls (P0_ : Nat → Prop) (u9000_ : Value) (l0 : List (S32)) (w0 w : World) (hB : Below w0.heap.size w0 w) (ho0 : Kd.R k32 32 w w0.heap.size P0_ u9000_ l0) (hsz : l0.length < 4611686018427387904) :
    Calls Try.prog 27 #[u9000_] w fun e w' => ∃ v, e = .returned v ∧ Kd.R k32 32 w' w0.heap.size (fun k_ => (P0_ k_ ∨ w.heap.size ≤ k_)) v (dedup l0) ∧ Below w0.heap.size w0 w' ∧ Kept w w' (fun k_ => P0_ k_) := by
  have hu32 := Try.underlying32
  have mixed : Try.prog.follows .mixedOrders = true := by first | rfl | kernel_rfl
  have HO_0 := Aside0.mk (show Kd.R k32 32 w w0.heap.size (fun k_ => (P0_ k_ ∨ w.heap.size ≤ k_)) u9000_ l0 from Kd.R_mono ho0 (fun k_ hk => (.inl hk)))
  have HK := Aside0.mk (Kept.refl w (fun k_ => P0_ k_))
  have HB := Aside0.mk hB
  clear hB ho0
  by_cases h2 : l0.length < 2
  · have hd : dedup l0 = l0 := by
      match l0, h2 with
      | [], _ => rfl
      | [x], _ => rfl
    obtain ⟨A, c, e0⟩ := Kd.R_slice HO_0.out
    subst e0
    have c1 : decide ((l0.length : Int) < 2) = true := decide_eq_true (by omega)
    clear h2
    go_enter Try.func27, Try.ntmps27
    go_wp2
    go_ret
    exact ⟨_, rfl, by rw [hd]; exact HO_0.out, HB.out, HK.out⟩
  · have c1 : decide ((l0.length : Int) < 2) = false := decide_eq_false (by omega)
    obtain ⟨g, c, e0, gb, gl, cl, HG⟩ := Kd.R_form HO_0.out (by omega)
    subst e0
    have GB := Aside0.mk gb
    have HM := Aside0.mk (show (P0_ g ∨ w.heap.size ≤ g) from (HO_0.out.1 _ rfl))
    clear gb gl HG cl
    have aE : ∀ w, (isAgg 32).run Try.prog w = .ok true w := by intro w_; first | (go_simp; done) | (simp [isAgg, hu32]; done)
    have zE0 : ∀ w, (Go.sizeOf 32).run Try.prog w = .ok k32.sz w := by intro w_; first | (go_simp; rfl) | (simp [Go.sizeOf, hu32]; rfl)
    obtain ⟨k7_, hk7_⟩ : ∃ k, k = k32.sz := ⟨_, rfl⟩
    have zE : ∀ w, (Go.sizeOf 32).run Try.prog w = .ok k7_ w := by rw [hk7_]; exact zE0
    clear zE0 hu32
    have HK7 := Aside0.mk hk7_
    clear hk7_
    have N2 : 2 ≤ l0.length := by omega
    have HC := Aside0.mk (Kd.R_reads' HO_0.out).2.1
    clear h2
    go_enter Try.func27, Try.ntmps27
    go_wp2
    go_loopg [3] (l0.length + 1) (fun kq v3 w' => ∃ (i : Nat), v3 = .int .i64 (i : Int) ∧ 1 ≤ i ∧ i ≤ l0.length ∧ l0.length - i + 1 ≤ kq ∧ Aside0 (l0.take i ++ dedupFrom (rd_T32 l0 ((i - 1 : Nat) : Int)) (l0.drop i) = dedup l0) ∧ Aside0 (Kd.R k32 32 w' w0.heap.size (fun k_ => (P0_ k_ ∨ w.heap.size ≤ k_)) (.slice (some ⟨g, 0, none⟩) l0.length c) l0) ∧ Aside0 (Kept w w' (fun k_ => P0_ k_)) ∧ Aside0 (Below w0.heap.size w0 w'))
    case atStart => exact ⟨1, rfl, Nat.le_refl _, by omega, by omega, ⟨by
        match l0, N2 with
        | x :: l, _ => rfl⟩, HO_0, HK, HB⟩
    case round =>
      try clear HO_0
      try clear HK
      try clear HB
      obtain ⟨i, rfl, hi1, hi, hm, HD, HO_0, HK, HB⟩ := hrel
      by_cases hlt : i < l0.length
      · have c2 : decide ((i : Int) < (l0.length : Int)) = true := decide_eq_true (by omega)
        go_wp2_with fail
        have HOd := Aside0.mk (Kd.R_drew HO_0.out)
        have HKd := Aside0.mk (Kept.drew HK.out)
        have HBd := Aside0.mk (below_drew1 HB.out)
        clear HO_0 HK HB
        obtain ⟨ca_, ha_, la_⟩ := Kd.C_loads (Kd.R_reads' HOd.out).2.2 z32 (i : Int) (by omega) (by omega)
        replace ha_ : k32.K _ (rd_T32 l0 (i : Int)) ca_ := ha_
        obtain rfl := k32_open ha_
        replace la_ := la_ Try.prog
        obtain ⟨cb_, hb_, lb_⟩ := Kd.C_loads (Kd.R_reads' HOd.out).2.2 z32 ((i - 1 : Nat) : Int) (by omega) (by omega)
        replace hb_ : k32.K _ (rd_T32 l0 ((i - 1 : Nat) : Int)) cb_ := hb_
        obtain rfl := k32_open hb_
        replace lb_ := lb_ Try.prog
        rw [← HK7.out] at la_ lb_
        simp only [Addr.add_lit, Nat.zero_add, Int.toNat_natCast] at la_ lb_
        clear ha_ hb_
        have hw1 : IntKind.i64.wrap ((i : Int) - 1) = ((i - 1 : Nat) : Int) := by rw [i64_w]; unfold wrap64; omega
        have hw2 : IntKind.i64.wrap ((i : Int) + 1) = ((i + 1 : Nat) : Int) := by rw [i64_w]; unfold wrap64; omega
        have q1 : ((i : Int) < (l0.length : Int)) = True := eq_true (by omega)
        have q2 : (((i - 1 : Nat) : Int) < (l0.length : Int)) = True := eq_true (by omega)
        have q3 : i - 1 < l0.length := by omega
        obtain ⟨x, hx⟩ : ∃ x, x = rd_T32 l0 (i : Int) := ⟨_, rfl⟩
        obtain ⟨y, hy⟩ : ∃ y, y = rd_T32 l0 ((i - 1 : Nat) : Int) := ⟨_, rfl⟩
        rw [← hx] at la_
        rw [← hy] at lb_
        have HX := Aside0.mk hx
        have HY := Aside0.mk hy
        clear hx hy
        cases hE : sEq x y with
        | false =>
          have HE := Aside0.mk hE
          unfold sEq at hE
          refine wp_region_past (by assumption) (by kernel_rfl) ?_
          repeat (quiet_step (fail))
          refine wpQuiet_nil ?_
          intro wq hwq
          have hle : Below wr.drew.heap.size wr.drew wq := by obtain ⟨p_, rfl⟩ := hwq; exact p_.le
          have HO_0 := Aside0.mk (Kd.R_below HOd.out hle)
          have HK := Aside0.mk (Kept.below HKd.out hle)
          have HB := Aside0.mk (below_step HBd.out hle)
          clear hwq hle HOd HKd HBd la_ lb_
          go_wp2
          go_roundg (l0.length - i)
          case measure => omega
          case rel => exact ⟨i + 1, (by first | rfl | (simp; done) | (simp [*]; done)), by omega, by omega, by omega, ⟨by
              rw [← HD.out, take_rd hlt, rd_drop hlt, dedupFrom, if_neg (by rw [← HX.out, ← HY.out, HE.out]; decide), List.append_assoc]
              rfl⟩, HO_0, HK, HB⟩
        | true =>
          have HE := Aside0.mk hE
          unfold sEq at hE
          refine wp_region_past (by assumption) (by kernel_rfl) ?_
          repeat (quiet_step (fail))
          refine wpQuiet_nil ?_
          intro wq hwq
          have hle : Below wr.drew.heap.size wr.drew wq := by obtain ⟨p_, rfl⟩ := hwq; exact p_.le
          have HO_0 := Aside0.mk (Kd.R_below HOd.out hle)
          have HK := Aside0.mk (Kept.below HKd.out hle)
          have HB := Aside0.mk (below_step HBd.out hle)
          clear hwq hle HOd HKd HBd la_ lb_
          have hci : ¬ c = i := by have := HC.out; omega
          have hd1 := Aside0.mk (show l0.take i ++ dedupFrom (rd_T32 l0 ((i + 1 - 1 : Nat) : Int)) (l0.drop (i + 1)) = dedup l0 from by
            rw [← HD.out, rd_drop hlt, dedupFrom, if_pos (by rw [← HX.out, ← HY.out, HE.out]), Nat.add_sub_cancel])
          clear HD hE HE HX HY hw1 q1 q2 q3
          go_wp2
          go_loopg [3, 5] (l0.length + 1) (fun kq v3 v5 w' => ∃ (kk j : Nat) (L : List S32), v3 = .int .i64 (kk : Int) ∧ v5 = .int .i64 (j : Int) ∧ 1 ≤ j ∧ i + j ≤ l0.length ∧ i ≤ kk ∧ kk + 1 ≤ i + j ∧ l0.length - (i + j) + 1 ≤ kq ∧ L.length = l0.length ∧ Aside0 (L.take kk ++ dedupFrom (rd_T32 l0 ((i + j - 1 : Nat) : Int)) (l0.drop (i + j)) = dedup l0) ∧ Aside0 (L.drop (i + j - 1) = l0.drop (i + j - 1)) ∧ Aside0 (Kd.R k32 32 w' w0.heap.size (fun k_ => (P0_ k_ ∨ w.heap.size ≤ k_)) (.slice (some ⟨g, 0, none⟩) l0.length c) L) ∧ Aside0 (Kept w w' (fun k_ => P0_ k_)) ∧ Aside0 (Below w0.heap.size w0 w'))
          case atStart => exact ⟨i, 1, l0, rfl, rfl, Nat.le_refl _, by omega, Nat.le_refl _, Nat.le_refl _, by omega, rfl, hd1, ⟨rfl⟩, HO_0, HK, HB⟩
          case round =>
            clear hd1 HO_0 HK HB
            obtain ⟨kk, j, L, rfl, rfl, hj1, hj, hk1, hk2, hm2, hL, HD, HT, HO_0, HK, HB⟩ := hrel
            by_cases hlt2 : i + j < l0.length
            · have c3 : decide ((j : Int) < ((l0.length - i : Nat) : Int)) = true := decide_eq_true (by omega)
              go_wp2_with fail
              have HOd := Aside0.mk (Kd.R_drew HO_0.out)
              have HKd := Aside0.mk (Kept.drew HK.out)
              have HBd := Aside0.mk (below_drew1 HB.out)
              clear HO_0 HK HB
              have hrd : ∀ m : Nat, i + j - 1 ≤ m → rd_T32 L (m : Int) = rd_T32 l0 (m : Int) := fun m hm => by
                unfold rd_T32
                rw [List.getD_eq_getElem?_getD, List.getD_eq_getElem?_getD, Int.toNat_natCast]
                have h8 : ∀ X : List S32, X[m]? = (X.drop (i + j - 1))[m - (i + j - 1)]? := fun X => by rw [List.getElem?_drop]; congr 1; omega
                rw [h8 L, h8 l0, HT.out]
              obtain ⟨ca_, ha_, la_⟩ := Kd.C_loads (Kd.R_reads' HOd.out).2.2 z32 ((i + j : Nat) : Int) (by omega) (by omega)
              replace ha_ : k32.K _ (rd_T32 L ((i + j : Nat) : Int)) ca_ := ha_
              obtain rfl := k32_open ha_
              replace la_ := la_ Try.prog
              obtain ⟨cb_, hb_, lb_⟩ := Kd.C_loads (Kd.R_reads' HOd.out).2.2 z32 ((i + (j - 1) : Nat) : Int) (by omega) (by omega)
              replace hb_ : k32.K _ (rd_T32 L ((i + (j - 1) : Nat) : Int)) cb_ := hb_
              obtain rfl := k32_open hb_
              replace lb_ := lb_ Try.prog
              rw [← HK7.out] at la_ lb_
              rw [hrd _ (by omega)] at la_ lb_
              simp only [Addr.add_lit, Nat.zero_add, Int.toNat_natCast, Nat.add_mul] at la_ lb_
              clear ha_ hb_
              have hw1 : IntKind.i64.wrap ((j : Int) - 1) = ((j - 1 : Nat) : Int) := by rw [i64_w]; unfold wrap64; omega
              have hw2 : IntKind.i64.wrap ((j : Int) + 1) = ((j + 1 : Nat) : Int) := by rw [i64_w]; unfold wrap64; omega
              have hw3 : IntKind.i64.wrap ((kk : Int) + 1) = ((kk + 1 : Nat) : Int) := by rw [i64_w]; unfold wrap64; omega
              have q1 : ((j : Int) < ((l0.length - i : Nat) : Int)) = True := eq_true (by omega)
              have q2 : (((j - 1 : Nat) : Int) < ((l0.length - i : Nat) : Int)) = True := eq_true (by omega)
              have q3 : j - 1 < l0.length - i := by omega
              have q4 : j < l0.length - i := by omega
              have q5 : ((kk : Int) < (l0.length : Int)) = True := eq_true (by omega)
              have q6 : kk < l0.length := by omega
              obtain ⟨x, hx⟩ : ∃ x, x = rd_T32 l0 ((i + j : Nat) : Int) := ⟨_, rfl⟩
              obtain ⟨y, hy⟩ : ∃ y, y = rd_T32 l0 ((i + (j - 1) : Nat) : Int) := ⟨_, rfl⟩
              rw [← hx] at la_
              rw [← hy] at lb_
              have HX := Aside0.mk hx
              have HY := Aside0.mk (show y = rd_T32 l0 ((i + j - 1 : Nat) : Int) from by rw [hy]; congr 2; omega)
              have HRD := Aside0.mk hrd
              clear hx hy hrd
              have HS := Aside0.mk (dedup_step (l := l0) (L := L) (m := i + j) (k := kk) (by omega) (by omega) hlt2 HD.out)
              cases hE : sEq x y with
              | true =>
                have hd1 := Aside0.mk (HS.out.1 (by rw [← HX.out, ← HY.out, hE]))
                unfold sEq at hE
                refine wp_region_past (by assumption) (by kernel_rfl) ?_
                repeat (quiet_step (fail))
                refine wpQuiet_nil ?_
                intro wq hwq
                have hle : Below wr.drew.heap.size wr.drew wq := by obtain ⟨p_, rfl⟩ := hwq; exact p_.le
                have HO_0 := Aside0.mk (Kd.R_below HOd.out hle)
                have HK := Aside0.mk (Kept.below HKd.out hle)
                have HB := Aside0.mk (below_step HBd.out hle)
                clear hwq hle HOd HKd HBd la_ lb_
                go_wp2
                go_roundg (l0.length - (i + j))
                case measure => omega
                case rel => exact ⟨kk, j + 1, L, rfl, (by first | rfl | (simp; done) | (simp [*]; done)), by omega, by omega, by omega, by omega, by omega, hL, hd1, ⟨by have h8 := congrArg (List.drop 1) HT.out; rw [List.drop_drop, List.drop_drop] at h8; rw [show i + (j + 1) - 1 = i + j - 1 + 1 by omega]; exact h8⟩, HO_0, HK, HB⟩
              | false =>
                have hd1 := Aside0.mk (HS.out.2 (by rw [← HX.out, ← HY.out, hE]) (by omega))
                unfold sEq at hE
                refine wp_region_past (by assumption) (by kernel_rfl) ?_
                repeat (quiet_step (fail))
                refine wpQuiet_nil ?_
                intro wq hwq
                have hle : Below wr.drew.heap.size wr.drew wq := by obtain ⟨p_, rfl⟩ := hwq; exact p_.le
                have HO_0 := Aside0.mk (Kd.R_below HOd.out hle)
                have HK := Aside0.mk (Kept.below HKd.out hle)
                have HB := Aside0.mk (below_step HBd.out hle)
                clear hwq hle HOd HKd HBd la_ lb_
                obtain ⟨cj_, lj_, ldj_, stj_, HR_, HG_⟩ := Kd.R_over1 HO_0.out z32 (kk : Int) ((i + j : Nat) : Int) (by omega) (by omega) (by omega) (by omega)
                replace ldj_ := ldj_ Try.prog
                replace stj_ := stj_ Try.prog
                rw [← HK7.out] at lj_ ldj_ stj_ HR_ HG_
                simp only [Int.toNat_natCast, Nat.add_mul] at ldj_ stj_ HR_ HG_
                have n0_ := Aside0.mk HR_
                have n1_ := Aside0.mk (Kept.of_grown HG_ HK.out (fun k_ he_ => by cases he_; exact HM.out))
                have n2_ := Aside0.mk (HB.out.grown HG_ HB.out.size (fun k_ he_ => by cases he_; exact GB.out))
                clear HO_0 HK HB HR_ HG_
                go_wp2
                go_roundg (l0.length - (i + j))
                case measure => omega
                case rel => exact ⟨kk + 1, j + 1, _, (by first | rfl | (simp; done) | (simp [*]; done)), (by first | rfl | (simp; done) | (simp [*]; done)), by omega, by omega, by omega, by omega, by omega, by rw [List.length_set]; exact hL, by
                    have h8 := HRD.out (i + j) (by omega)
                    unfold rd_T32 at h8 hd1
                    rw [Int.toNat_natCast] at h8
                    rw [h8]
                    exact hd1, ⟨by
                    have h8 := congrArg (List.drop 1) HT.out
                    rw [List.drop_drop, List.drop_drop] at h8
                    rw [show i + (j + 1) - 1 = i + j - 1 + 1 by omega, List.drop_set, if_pos (by omega)]
                    exact h8⟩, n0_, n1_, n2_⟩
            · have c3 : decide ((j : Int) < ((l0.length - i : Nat) : Int)) = false := decide_eq_false (by omega)
              have hend : i + j = l0.length := by omega
              obtain ⟨cur, hcu, hcs⟩ := Kd.R_cur HO_0.out
              have hu32 := Try.underlying32
              have hz : ∀ w, (zeroValue 32).run Try.prog w = .ok (.agg #[.int .i64 0, .int .i64 0, .int .i64 0, .int .i64 0, .int .i64 0, .int .i64 0, .int .i64 0]) w := by
                intro w_
                go_simp
                try rfl
              clear hu32
              have hnc := HC.out
              have hfit : kk * k32.sz + (l0.length - kk) * 7 ≤ cur.size := by
                rw [hcs]
                show kk * 7 + (l0.length - kk) * 7 ≤ c * 7
                omega
              have hcl0 := fun ty => run_clear_row (P := Try.prog) wr 22 32 ty _ Try.underlying22 hz (by intro v hv; simp [Value.cells] at hv; subst hv; rfl) g (kk * k32.sz) (l0.length - kk) (c - kk) (by omega) hcu (by simpa [Value.cells] using hfit)
              have hl2 := zero_cells_length (z := Value.cells (.agg #[.int .i64 0, .int .i64 0, .int .i64 0, .int .i64 0, .int .i64 0, .int .i64 0, .int .i64 0])) (n := l0.length - kk)
              obtain ⟨HRP, HGP⟩ := Kd.R_past (o := kk * k32.sz) (Kd.R_take HO_0.out (m := kk) (by omega)) _ (Nat.le_refl _) (show kk * k32.sz + (Builtin.zeroCells (Value.cells (.agg #[.int .i64 0, .int .i64 0, .int .i64 0, .int .i64 0, .int .i64 0, .int .i64 0, .int .i64 0])) (l0.length - kk)).toList.length ≤ c * k32.sz from by
                rw [hl2]
                rw [hcs] at hfit
                exact hfit)
              generalize (Builtin.zeroCells (Value.cells (.agg #[.int .i64 0, .int .i64 0, .int .i64 0, .int .i64 0, .int .i64 0, .int .i64 0, .int .i64 0])) (l0.length - kk)).toList = zs at hcl0 HRP HGP
              rw [← HK7.out] at hcl0 HRP HGP
              have n0_ := Aside0.mk HRP
              have n1_ := Aside0.mk (Kept.of_grown HGP HK.out (fun k_ he_ => by cases he_; exact HM.out))
              have n2_ := Aside0.mk (HB.out.grown HGP HB.out.size (fun k_ he_ => by cases he_; exact GB.out))
              have hkc : ¬ c = kk := by omega
              have q5 : ((kk : Int) ≤ (l0.length : Int)) = True := eq_true (by omega)
              have q6 : kk ≤ l0.length := by omega
              have q7 : kk ≤ c := by omega
              have hd : L.take kk = dedup l0 := by
                have h9 := HD.out
                rw [hend, List.drop_length] at h9
                unfold dedupFrom at h9
                rwa [List.append_nil] at h9
              have HD2 := Aside0.mk hd
              clear HRP HGP HO_0 HK HB hcu hcs hz hfit hl2 hd HD HT
              go_wp2
              go_ret
              exact ⟨_, rfl, by rw [← HD2.out]; exact n0_.out, n2_.out, n1_.out⟩
      · have c2 : decide ((i : Int) < (l0.length : Int)) = false := decide_eq_false (by omega)
        obtain rfl : i = l0.length := by omega
        have hd : dedup l0 = l0 := by
          have h9 := HD.out
          rw [List.drop_length, List.take_length] at h9
          unfold dedupFrom at h9
          rw [← h9, List.append_nil]
        clear HD
        go_wp2
        go_ret
        exact ⟨_, rfl, by rw [hd]; exact HO_0.out, HB.out, HK.out⟩

/-! ### preds_Of: function 11 -/
def preds_Of.l0 : Nat → List (S32) → Int → Option ((List (S32)) × Int)
  | 0, _, _ => none
  | k + 1, x4, x5 => if x5 < (x4.length : Int) then (if 0 ≤ (wrap64 (x5 - 1)) then (if (wrap64 (x5 - 1)) < (x4.length : Int) then (if 0 ≤ x5 then (if ((rd_T32 x4 (wrap64 (x5 - 1))).f0) = ((rd_T32 x4 x5).f0) then (some (([] : List (S32)), 6)) else (preds_Of.l0 k x4 (wrap64 (x5 + 1)))) else (none)) else (none)) else (none)) else (if (x4.length : Int) > 1024 then (some (([] : List (S32)), 4)) else (some (x4, 0)))
def preds_Of.f (k : Nat) (l0 : List (S32)) : Option ((List (S32)) × Int) := (preds_cmdRight.f l0).bind fun t188 => (if t188 = true then ((some (([] : List (S32)) : List (S32))).bind fun y189 => (if y189.length + l0.length < 2513169434916 then ((api_Cmd_25.f k (y189 ++ l0) 0).bind fun t195 => ((api_Cmd_27.f t195).bind fun t196 => (preds_Of.l0 k t196 1))) else (none))) else (some (([] : List (S32)), 1)))
theorem preds_Of.mono_l : ∀ k, (∀ y0 y1, LeO (preds_Of.l0 k y0 y1) (preds_Of.l0 (k + 1) y0 y1))
  | 0 => fun _ _ r h => by simp [preds_Of.l0] at h
  | k + 1 => by
    have ih0 := preds_Of.mono_l k
    · intro y0 y1
      unfold preds_Of.l0
      repeat' first
      | (with_reducible exact ih0 _ _)
      | (with_reducible exact api_Cmd_25.mono _ _ _)
      | (with_reducible exact LeO.refl _)
      | (with_reducible exact LeO.none _)
      | (with_reducible refine LeO.ite ?_ ?_)
      | (with_reducible refine LeO.bind ?_ (fun _ => ?_))
      | exact ih0 _ _
      | exact api_Cmd_25.mono _ _ _
      | exact LeO.none _
      | refine LeO.ite ?_ ?_
      | refine LeO.bind ?_ (fun _ => ?_)
theorem preds_Of.mono : ∀ a0 k, LeO (preds_Of.f k a0) (preds_Of.f (k + 1) a0) := by
  intro a0 k
  have ih0 := preds_Of.mono_l k
  unfold preds_Of.f
  repeat' first
      | (with_reducible exact ih0 _ _)
      | (with_reducible exact api_Cmd_25.mono _ _ _)
      | (with_reducible exact LeO.refl _)
      | (with_reducible exact LeO.none _)
      | (with_reducible refine LeO.ite ?_ ?_)
      | (with_reducible refine LeO.bind ?_ (fun _ => ?_))
      | exact ih0 _ _
      | exact api_Cmd_25.mono _ _ _
      | exact LeO.none _
      | refine LeO.ite ?_ ?_
      | refine LeO.bind ?_ (fun _ => ?_)
set_option maxHeartbeats 8000000 in
set_option maxRecDepth 100000 in
theorem preds_Of.calls (k : Nat) (A0 : Option Addr) (c0 : Nat) (l0 : List (S32)) (r1 : List (S32)) (r2 : Int) (w : World) (hr0 : Kd.C k32 w A0 l0.length l0) (hc0 : l0.length ≤ c0) (h : preds_Of.f k l0 = some (r1, r2)) :
    Calls Try.prog 11 #[.slice A0 l0.length c0] w fun e w' => ∃ v0_ : Value, e = .returned (.tuple #[v0_, .int .i64 r2]) ∧ Kd.R k32 32 w' w.heap.size (fun _ => True) v0_ r1 ∧ Below w.heap.size w w' := by
  have HR0 := Aside0.mk hr0
  have HC0 := Aside0.mk hc0
  clear hr0 hc0
  have HB := Aside0.mk (Below.refl w.heap.size w)
  have H : ((preds_cmdRight.f l0).bind fun t188 => (if t188 = true then ((some (([] : List (S32)) : List (S32))).bind fun y189 => (if y189.length + l0.length < 2513169434916 then ((api_Cmd_25.f k (y189 ++ l0) 0).bind fun t195 => ((api_Cmd_27.f t195).bind fun t196 => (preds_Of.l0 k t196 1))) else (none))) else (some (([] : List (S32)), 1)))) = some (r1, r2) := h
  clear h
  replace H := Option.bind_eq_some_iff.mp H
  obtain ⟨t188, A20, H⟩ := H
  replace H : (if t188 = true then ((some (([] : List (S32)) : List (S32))).bind fun y189 => (if y189.length + l0.length < 2513169434916 then ((api_Cmd_25.f k (y189 ++ l0) 0).bind fun t195 => ((api_Cmd_27.f t195).bind fun t196 => (preds_Of.l0 k t196 1))) else (none))) else (some (([] : List (S32)), 1))) = some (r1, r2) := H
  have A2 := Aside0.mk A20
  clear A20
  by_cases c3 : t188 = true
  · subst c3
    have H1 : ((some (([] : List (S32)) : List (S32))).bind fun y189 => (if y189.length + l0.length < 2513169434916 then ((api_Cmd_25.f k (y189 ++ l0) 0).bind fun t195 => ((api_Cmd_27.f t195).bind fun t196 => (preds_Of.l0 k t196 1))) else (none))) = some (r1, r2) := by rw [if_pos rfl] at H; exact H
    clear H
    have H := H1
    clear H1
    obtain ⟨y189, hy189⟩ : ∃ y_ : List (S32), y_ = (([] : List (S32))) := ⟨_, rfl⟩
    replace H : (if y189.length + l0.length < 2513169434916 then ((api_Cmd_25.f k (y189 ++ l0) 0).bind fun t195 => ((api_Cmd_27.f t195).bind fun t196 => (preds_Of.l0 k t196 1))) else (none)) = some (r1, r2) := by first | (rw [hy189]; with_reducible exact H) | (have H2_ := (Option.bind_some _ _).symm.trans H; rw [hy189]; with_reducible exact H2_) | (have H2_ := (Option.bind_some _ _).symm.trans H; with_reducible exact H2_) | with_reducible exact H | (rw [hy189]; exact H) | exact H
    have Ny189 := Aside0.mk hy189
    clear hy189
    by_cases c4 : y189.length + l0.length < 2513169434916
    · rw [if_pos c4] at H
      have LMc4 := Aside0.mk c4
      clear c4
      obtain ⟨y192, hy192⟩ : ∃ y_ : List (S32), y_ = (y189 ++ l0) := ⟨_, rfl⟩
      replace H : ((api_Cmd_25.f k y192 0).bind fun t195 => ((api_Cmd_27.f t195).bind fun t196 => (preds_Of.l0 k t196 1))) = some (r1, r2) := by first | (rw [hy192]; with_reducible exact H) | (have H2_ := (Option.bind_some _ _).symm.trans H; rw [hy192]; with_reducible exact H2_) | (have H2_ := (Option.bind_some _ _).symm.trans H; with_reducible exact H2_) | with_reducible exact H | (rw [hy192]; exact H) | exact H
      have Ny192 := Aside0.mk hy192
      clear hy192
      replace H := Option.bind_eq_some_iff.mp H
      obtain ⟨t195, A50, H⟩ := H
      replace H : ((api_Cmd_27.f t195).bind fun t196 => (preds_Of.l0 k t196 1)) = some (r1, r2) := H
      have A5 := Aside0.mk A50
      clear A50
      replace H := Option.bind_eq_some_iff.mp H
      obtain ⟨t196, A60, H⟩ := H
      replace H : (preds_Of.l0 k t196 1) = some (r1, r2) := H
      have A6 := Aside0.mk A60
      clear A60
      have H' := Aside0.mk H
      clear H
      go_enter Try.func11, Try.ntmps11
      go_wp2_with (first | (go_at_call 24; (with_reducible refine (preds_cmdRight.calls _ _ l0 true _ ?side1 ?side2 A2.out).mono ?_); (case side1 => repeat (first | exact HR0.out | (with_reducible refine Kd.C_alloc ?_ _) | (with_reducible refine Kd.C_drewN ?_ _) | (with_reducible refine Kd.C_drew ?_))); (case side2 => exact HC0.out); rintro e w7 ⟨rfl, hb⟩; have n0_ := Aside0.mk (below_step (by repeat (first | (with_reducible first | exact HB.out | apply below_alloc | apply pw_below_drewN | apply below_drew1) | exact HB.out)) hb); clear HB; have HB := n0_; clear n0_; (try clear hb); (try clear hb2); (try clear hk); (try clear hi)) | ((with_reducible refine gate_dst (N := 9) rfl ?_); refine Kd.R_lit k32 _ 32 ?hg (N := 9) ?hd (xs := ([] : List (S32))) (inner := []) (ok := fun _ => True) (okp := fun _ => True) ?hr ?hp (fun _ hk => hk) trivial (Below.refl _ _) (Nat.le_refl _) (by simp) ?_; (case hd => rfl); (case hg => rfl); (case hr => first | (go_simp; done) | (go_simp; rfl)); (case hp => exact (Reps.none _ _)); intro v190 w8 ho9 hb hg_ hnew_; clear hg_ hnew_; (first | rw [← Ny189.out] at ho9 | (simp only [Int.reduceToNat] at ho9; rw [← Ny189.out] at ho9)); have n0_ := Aside0.mk (Kd.R_lower ho9 (below_size (by repeat (first | (with_reducible first | exact HB.out | apply below_alloc | apply pw_below_drewN | apply below_drew1) | exact HB.out)))); have n1_ := Aside0.mk (below_step (by repeat (first | (with_reducible first | exact HB.out | apply below_alloc | apply pw_below_drewN | apply below_drew1) | exact HB.out)) hb); clear HB; have HO191 := n0_; have HB := n1_; clear n0_ n1_; clear hb ho9) | ((with_reducible refine gate_builtin (b := .append) (xs := #[.tmp 9, .tmp 10]) rfl ?_); at_builtin; refine Kd.R_append_rows k32 (w0 := w) w.heap.size rfl (.tmp 9) (.tmp 10) 22 32 (.agg #[(.int .i64 0), (.int .i64 0), (.int .i64 0), (.int .i64 0), (.int .i64 0), (.int .i64 0), (.int .i64 0)]) 56 rfl Try.underlying22 info32 rfl (by decide) (by omega) v190 y189 l0 _ _ _ (fun _ => True) (fun _ => False) rfl rfl ?aO ?aR (fun _ _ h => h) (fun _ h => h.elim) ?aF ?aB ?aS ?aL ?_; (case aR => repeat (first | exact (Kd.C_below HR0.out HB.out) | (with_reducible refine Kd.C_alloc ?_ _) | (with_reducible refine Kd.C_drewN ?_ _) | (with_reducible refine Kd.C_drew ?_))); (case aB => exact (by repeat (first | (with_reducible first | exact HB.out | apply below_alloc | apply pw_below_drewN | apply below_drew1) | exact HB.out))); (case aF => exact (fun _ _ => trivial)); (case aO => exact (by (with_reducible repeat (first | apply Kd.R_alloc | apply Kd.R_drewN | apply Kd.R_drew)); exact HO191.out)); (case aS => exact (below_size (by repeat (first | (with_reducible first | exact HB.out | apply below_alloc | apply pw_below_drewN | apply below_drew1) | exact HB.out)))); (case aL => have := LMc4.out; omega); intro v193 w10 ho hb hg hat; rw [← Ny192.out] at ho; have n0_ := Aside0.mk (hb); have n1_ := Aside0.mk (ho); clear HB; clear HO191; have HB := n0_; have HO194 := n1_; clear n0_ n1_; clear ho hb hg hat; obtain ⟨Ao11, co11, eo11⟩ := Kd.R_slice HO194.out; subst eo11) | (go_at_call 25; (with_reducible refine (api_Cmd_25.calls k (fun k_ => some k_ = (.slice Ao11 y192.length co11 : Value).ownBlock) (.slice Ao11 y192.length co11) y192 0 t195 w _ ?side1 ?side2 A5.out).mono ?_); (case side1 => repeat (first | (with_reducible first | exact HB.out | apply below_alloc | apply pw_below_drewN | apply below_drew1) | exact HB.out)); (case side2 => exact Kd.R_tight rfl HO194.out); rintro e w12 ⟨rfl, hy0, hb, hkp⟩; have n0_ := Aside0.mk (Kd.R_reok rfl hy0 (fun k_ e_ => HO194.out.1 k_ e_)); have n1_ := Aside0.mk (hb); clear HO194; clear HB; have HO194 := n0_; have HB := n1_; clear n0_ n1_; (try clear hb); (try clear hkp); (try clear hy0)) | (go_at_call 27; refine calls_of_args (args' := #[.slice Ao11 t195.length co11]) (by first | (rw [show t195.length = y192.length from (Kd.R_reads' HO194.out).1.symm] <;> rfl) | rfl) ?_; (with_reducible refine (compactC.calls (fun _ => True) (.slice Ao11 t195.length co11) t195 w _ ?side1 ?side2 ?side3).mono ?_); (case side1 => exact HB.out); (case side2 => rw [show t195.length = y192.length from (Kd.R_reads' HO194.out).1.symm]; exact Kd.R_mono HO194.out (fun _ _ => trivial)); (case side3 => have e_ := (Kd.R_reads' HO194.out).1; have h_ := LMc4.out; have y_ := congrArg List.length Ny192.out; rw [List.length_append] at y_; omega); rintro e w13 ⟨v197, rfl, ho0, hb, hk⟩; have ea_ : dedup t195 = t196 := Option.some.inj A6.out; rw [ea_] at ho0; clear ea_; have n1_ := Aside0.mk (Kd.R_mono ho0 (fun _ _ => trivial)); have n2_ := Aside0.mk hb; clear HO194; clear HB; have HO198 := n1_; have HB := n2_; clear n1_ n2_; (try clear hb); (try clear hk); (try clear ho0)))
      repeat (go_quiet (first | (go_at_call 24; (with_reducible refine (preds_cmdRight.calls _ _ l0 true _ ?side1 ?side2 A2.out).mono ?_); (case side1 => repeat (first | exact HR0.out | (with_reducible refine Kd.C_alloc ?_ _) | (with_reducible refine Kd.C_drewN ?_ _) | (with_reducible refine Kd.C_drew ?_))); (case side2 => exact HC0.out); rintro e w7 ⟨rfl, hb⟩; have n0_ := Aside0.mk (below_step (by repeat (first | (with_reducible first | exact HB.out | apply below_alloc | apply pw_below_drewN | apply below_drew1) | exact HB.out)) hb); clear HB; have HB := n0_; clear n0_; (try clear hb); (try clear hb2); (try clear hk); (try clear hi)) | ((with_reducible refine gate_dst (N := 9) rfl ?_); refine Kd.R_lit k32 _ 32 ?hg (N := 9) ?hd (xs := ([] : List (S32))) (inner := []) (ok := fun _ => True) (okp := fun _ => True) ?hr ?hp (fun _ hk => hk) trivial (Below.refl _ _) (Nat.le_refl _) (by simp) ?_; (case hd => rfl); (case hg => rfl); (case hr => first | (go_simp; done) | (go_simp; rfl)); (case hp => exact (Reps.none _ _)); intro v190 w8 ho9 hb hg_ hnew_; clear hg_ hnew_; (first | rw [← Ny189.out] at ho9 | (simp only [Int.reduceToNat] at ho9; rw [← Ny189.out] at ho9)); have n0_ := Aside0.mk (Kd.R_lower ho9 (below_size (by repeat (first | (with_reducible first | exact HB.out | apply below_alloc | apply pw_below_drewN | apply below_drew1) | exact HB.out)))); have n1_ := Aside0.mk (below_step (by repeat (first | (with_reducible first | exact HB.out | apply below_alloc | apply pw_below_drewN | apply below_drew1) | exact HB.out)) hb); clear HB; have HO191 := n0_; have HB := n1_; clear n0_ n1_; clear hb ho9) | ((with_reducible refine gate_builtin (b := .append) (xs := #[.tmp 9, .tmp 10]) rfl ?_); at_builtin; refine Kd.R_append_rows k32 (w0 := w) w.heap.size rfl (.tmp 9) (.tmp 10) 22 32 (.agg #[(.int .i64 0), (.int .i64 0), (.int .i64 0), (.int .i64 0), (.int .i64 0), (.int .i64 0), (.int .i64 0)]) 56 rfl Try.underlying22 info32 rfl (by decide) (by omega) v190 y189 l0 _ _ _ (fun _ => True) (fun _ => False) rfl rfl ?aO ?aR (fun _ _ h => h) (fun _ h => h.elim) ?aF ?aB ?aS ?aL ?_; (case aR => repeat (first | exact (Kd.C_below HR0.out HB.out) | (with_reducible refine Kd.C_alloc ?_ _) | (with_reducible refine Kd.C_drewN ?_ _) | (with_reducible refine Kd.C_drew ?_))); (case aB => exact (by repeat (first | (with_reducible first | exact HB.out | apply below_alloc | apply pw_below_drewN | apply below_drew1) | exact HB.out))); (case aF => exact (fun _ _ => trivial)); (case aO => exact (by (with_reducible repeat (first | apply Kd.R_alloc | apply Kd.R_drewN | apply Kd.R_drew)); exact HO191.out)); (case aS => exact (below_size (by repeat (first | (with_reducible first | exact HB.out | apply below_alloc | apply pw_below_drewN | apply below_drew1) | exact HB.out)))); (case aL => have := LMc4.out; omega); intro v193 w10 ho hb hg hat; rw [← Ny192.out] at ho; have n0_ := Aside0.mk (hb); have n1_ := Aside0.mk (ho); clear HB; clear HO191; have HB := n0_; have HO194 := n1_; clear n0_ n1_; clear ho hb hg hat; obtain ⟨Ao11, co11, eo11⟩ := Kd.R_slice HO194.out; subst eo11) | (go_at_call 25; (with_reducible refine (api_Cmd_25.calls k (fun k_ => some k_ = (.slice Ao11 y192.length co11 : Value).ownBlock) (.slice Ao11 y192.length co11) y192 0 t195 w _ ?side1 ?side2 A5.out).mono ?_); (case side1 => repeat (first | (with_reducible first | exact HB.out | apply below_alloc | apply pw_below_drewN | apply below_drew1) | exact HB.out)); (case side2 => exact Kd.R_tight rfl HO194.out); rintro e w12 ⟨rfl, hy0, hb, hkp⟩; have n0_ := Aside0.mk (Kd.R_reok rfl hy0 (fun k_ e_ => HO194.out.1 k_ e_)); have n1_ := Aside0.mk (hb); clear HO194; clear HB; have HO194 := n0_; have HB := n1_; clear n0_ n1_; (try clear hb); (try clear hkp); (try clear hy0)) | (go_at_call 27; refine calls_of_args (args' := #[.slice Ao11 t195.length co11]) (by first | (rw [show t195.length = y192.length from (Kd.R_reads' HO194.out).1.symm] <;> rfl) | rfl) ?_; (with_reducible refine (compactC.calls (fun _ => True) (.slice Ao11 t195.length co11) t195 w _ ?side1 ?side2 ?side3).mono ?_); (case side1 => exact HB.out); (case side2 => rw [show t195.length = y192.length from (Kd.R_reads' HO194.out).1.symm]; exact Kd.R_mono HO194.out (fun _ _ => trivial)); (case side3 => have e_ := (Kd.R_reads' HO194.out).1; have h_ := LMc4.out; have y_ := congrArg List.length Ny192.out; rw [List.length_append] at y_; omega); rintro e w13 ⟨v197, rfl, ho0, hb, hk⟩; have ea_ : dedup t195 = t196 := Option.some.inj A6.out; rw [ea_] at ho0; clear ea_; have n1_ := Aside0.mk (Kd.R_mono ho0 (fun _ _ => trivial)); have n2_ := Aside0.mk hb; clear HO194; clear HB; have HO198 := n1_; have HB := n2_; clear n1_ n2_; (try clear hb); (try clear hk); (try clear ho0))); try go_wp2_with (first | (go_at_call 24; (with_reducible refine (preds_cmdRight.calls _ _ l0 true _ ?side1 ?side2 A2.out).mono ?_); (case side1 => repeat (first | exact HR0.out | (with_reducible refine Kd.C_alloc ?_ _) | (with_reducible refine Kd.C_drewN ?_ _) | (with_reducible refine Kd.C_drew ?_))); (case side2 => exact HC0.out); rintro e w7 ⟨rfl, hb⟩; have n0_ := Aside0.mk (below_step (by repeat (first | (with_reducible first | exact HB.out | apply below_alloc | apply pw_below_drewN | apply below_drew1) | exact HB.out)) hb); clear HB; have HB := n0_; clear n0_; (try clear hb); (try clear hb2); (try clear hk); (try clear hi)) | ((with_reducible refine gate_dst (N := 9) rfl ?_); refine Kd.R_lit k32 _ 32 ?hg (N := 9) ?hd (xs := ([] : List (S32))) (inner := []) (ok := fun _ => True) (okp := fun _ => True) ?hr ?hp (fun _ hk => hk) trivial (Below.refl _ _) (Nat.le_refl _) (by simp) ?_; (case hd => rfl); (case hg => rfl); (case hr => first | (go_simp; done) | (go_simp; rfl)); (case hp => exact (Reps.none _ _)); intro v190 w8 ho9 hb hg_ hnew_; clear hg_ hnew_; (first | rw [← Ny189.out] at ho9 | (simp only [Int.reduceToNat] at ho9; rw [← Ny189.out] at ho9)); have n0_ := Aside0.mk (Kd.R_lower ho9 (below_size (by repeat (first | (with_reducible first | exact HB.out | apply below_alloc | apply pw_below_drewN | apply below_drew1) | exact HB.out)))); have n1_ := Aside0.mk (below_step (by repeat (first | (with_reducible first | exact HB.out | apply below_alloc | apply pw_below_drewN | apply below_drew1) | exact HB.out)) hb); clear HB; have HO191 := n0_; have HB := n1_; clear n0_ n1_; clear hb ho9) | ((with_reducible refine gate_builtin (b := .append) (xs := #[.tmp 9, .tmp 10]) rfl ?_); at_builtin; refine Kd.R_append_rows k32 (w0 := w) w.heap.size rfl (.tmp 9) (.tmp 10) 22 32 (.agg #[(.int .i64 0), (.int .i64 0), (.int .i64 0), (.int .i64 0), (.int .i64 0), (.int .i64 0), (.int .i64 0)]) 56 rfl Try.underlying22 info32 rfl (by decide) (by omega) v190 y189 l0 _ _ _ (fun _ => True) (fun _ => False) rfl rfl ?aO ?aR (fun _ _ h => h) (fun _ h => h.elim) ?aF ?aB ?aS ?aL ?_; (case aR => repeat (first | exact (Kd.C_below HR0.out HB.out) | (with_reducible refine Kd.C_alloc ?_ _) | (with_reducible refine Kd.C_drewN ?_ _) | (with_reducible refine Kd.C_drew ?_))); (case aB => exact (by repeat (first | (with_reducible first | exact HB.out | apply below_alloc | apply pw_below_drewN | apply below_drew1) | exact HB.out))); (case aF => exact (fun _ _ => trivial)); (case aO => exact (by (with_reducible repeat (first | apply Kd.R_alloc | apply Kd.R_drewN | apply Kd.R_drew)); exact HO191.out)); (case aS => exact (below_size (by repeat (first | (with_reducible first | exact HB.out | apply below_alloc | apply pw_below_drewN | apply below_drew1) | exact HB.out)))); (case aL => have := LMc4.out; omega); intro v193 w10 ho hb hg hat; rw [← Ny192.out] at ho; have n0_ := Aside0.mk (hb); have n1_ := Aside0.mk (ho); clear HB; clear HO191; have HB := n0_; have HO194 := n1_; clear n0_ n1_; clear ho hb hg hat; obtain ⟨Ao11, co11, eo11⟩ := Kd.R_slice HO194.out; subst eo11) | (go_at_call 25; (with_reducible refine (api_Cmd_25.calls k (fun k_ => some k_ = (.slice Ao11 y192.length co11 : Value).ownBlock) (.slice Ao11 y192.length co11) y192 0 t195 w _ ?side1 ?side2 A5.out).mono ?_); (case side1 => repeat (first | (with_reducible first | exact HB.out | apply below_alloc | apply pw_below_drewN | apply below_drew1) | exact HB.out)); (case side2 => exact Kd.R_tight rfl HO194.out); rintro e w12 ⟨rfl, hy0, hb, hkp⟩; have n0_ := Aside0.mk (Kd.R_reok rfl hy0 (fun k_ e_ => HO194.out.1 k_ e_)); have n1_ := Aside0.mk (hb); clear HO194; clear HB; have HO194 := n0_; have HB := n1_; clear n0_ n1_; (try clear hb); (try clear hkp); (try clear hy0)) | (go_at_call 27; refine calls_of_args (args' := #[.slice Ao11 t195.length co11]) (by first | (rw [show t195.length = y192.length from (Kd.R_reads' HO194.out).1.symm] <;> rfl) | rfl) ?_; (with_reducible refine (compactC.calls (fun _ => True) (.slice Ao11 t195.length co11) t195 w _ ?side1 ?side2 ?side3).mono ?_); (case side1 => exact HB.out); (case side2 => rw [show t195.length = y192.length from (Kd.R_reads' HO194.out).1.symm]; exact Kd.R_mono HO194.out (fun _ _ => trivial)); (case side3 => have e_ := (Kd.R_reads' HO194.out).1; have h_ := LMc4.out; have y_ := congrArg List.length Ny192.out; rw [List.length_append] at y_; omega); rintro e w13 ⟨v197, rfl, ho0, hb, hk⟩; have ea_ : dedup t195 = t196 := Option.some.inj A6.out; rw [ea_] at ho0; clear ea_; have n1_ := Aside0.mk (Kd.R_mono ho0 (fun _ _ => trivial)); have n2_ := Aside0.mk hb; clear HO194; clear HB; have HO198 := n1_; have HB := n2_; clear n1_ n2_; (try clear hb); (try clear hk); (try clear ho0))))
      go_loopg [5] k (fun kq v5 w' => ∃ (x5_1 : Int), v5 = .int .i64 x5_1 ∧ Aside0 (preds_Of.l0 kq t196 x5_1 = some (r1, r2)) ∧ Aside0 (kq ≤ k) ∧ Aside0 (Kd.R k32 32 w' w.heap.size (fun _ => True) v197 t196) ∧ Aside0 (Below w.heap.size w w'))
      case atStart => exact ⟨(1), (by first | rfl | (simp; done) | (simp [*]; done)), H', ⟨Nat.le_refl _⟩, ⟨by (with_reducible repeat (first | apply Kd.R_alloc | apply Kd.R_drewN | apply Kd.R_drew)); exact Kd.R_mono HO198.out (fun _ hk => trivial)⟩, ⟨by repeat (first | (with_reducible first | exact HB.out | apply below_alloc | apply pw_below_drewN | apply below_drew1) | exact HB.out)⟩⟩
      case round =>
        clear H'
        try clear c1
        try clear p2
        try clear c3
        try clear c4
        try clear c11
        obtain ⟨x5_1, rfl, HA, HK1, HO_4, HB⟩ := hrel
        cases gk with
        | zero => exact absurd HA.out (by simp [preds_Of.l0])
        | succ k1 =>
          have H := HA.out
          clear HA
          simp only [preds_Of.l0] at H
          by_cases c14 : x5_1 < (t196.length : Int)
          · rw [if_pos c14] at H
            have c14b0 : decide (x5_1 < (t196.length : Int)) = true := decide_eq_true c14
            clear c14
            obtain ⟨ji15, hji15⟩ : ∃ j_ : Int, (wrap64 (x5_1 - 1)) = j_ := ⟨_, rfl⟩
            replace H : (if 0 ≤ (ji15) then (if (ji15) < (t196.length : Int) then (if 0 ≤ x5_1 then (if ((rd_T32 t196 (ji15)).f0) = ((rd_T32 t196 x5_1).f0) then (some (([] : List (S32)), 6)) else (preds_Of.l0 k1 t196 (wrap64 (x5_1 + 1)))) else (none)) else (none)) else (none)) = some (r1, r2) := by first | (rw [hji15] at H; exact H) | (simp only [hji15] at H ⊢; exact H)
            have hji15w : (IntKind.i64.wrap (x5_1 - 1)) = ji15 := (i64_w _).trans hji15
            by_cases c16 : 0 ≤ (ji15)
            · rw [if_pos c16] at H
              have c16b0 : decide (0 ≤ (ji15)) = true := decide_eq_true c16
              clear c16
              by_cases c17 : (ji15) < (t196.length : Int)
              · rw [if_pos c17] at H
                have c17b0 : decide ((ji15) < (t196.length : Int)) = true := decide_eq_true c17
                clear c17
                by_cases c18 : 0 ≤ x5_1
                · rw [if_pos c18] at H
                  have c18b0 : decide (0 ≤ x5_1) = true := decide_eq_true c18
                  clear c18
                  by_cases c19 : ((rd_T32 t196 (ji15)).f0) = ((rd_T32 t196 x5_1).f0)
                  · rw [if_pos c19] at H
                    have c19b0 : (((rd_T32 t196 (ji15)).f0) == ((rd_T32 t196 x5_1).f0)) = true := beq_iff_eq.mpr c19
                    have c19b1 : (((rd_T32 t196 (ji15)).f0) != ((rd_T32 t196 x5_1).f0)) = false := bne_eq_false_iff_eq.mpr c19
                    clear c19
                    simp only [Option.some.injEq, Prod.mk.injEq] at H
                    obtain ⟨rfl, rfl⟩ := H
                    obtain ⟨Ao20, co20, eo20⟩ := Kd.R_slice HO_4.out
                    subst eo20
                    have p199 : 0 ≤ ((ji15) : Int) := of_decide_eq_true (by first | (with_reducible assumption) | assumption)
                    have q199 : (ji15) < (t196.length : Int) := of_decide_eq_true (by first | (with_reducible assumption) | assumption)
                    obtain ⟨ad199, e199, hx199_0, hx199_1, hx199_2, hx199_3, hx199_4, hx199_5, hx199_6⟩ := at_T32 (Kd.R_reads' HO_4.out).2.2 (ji15) p199 q199
                    cases e199
                    replace p199 := eq_true p199
                    replace q199 := eq_true q199
                    have p200 : 0 ≤ (x5_1 : Int) := of_decide_eq_true (by first | (with_reducible assumption) | assumption)
                    have q200 : x5_1 < (t196.length : Int) := of_decide_eq_true (by first | (with_reducible assumption) | assumption)
                    obtain ⟨ad200, e200, hx200_0, hx200_1, hx200_2, hx200_3, hx200_4, hx200_5, hx200_6⟩ := at_T32 (Kd.R_reads' HO_4.out).2.2 x5_1 p200 q200
                    obtain rfl : ad199 = ad200 := (by injection e200)
                    replace p200 := eq_true p200
                    replace q200 := eq_true q200
                    go_wp2
                    repeat (go_quiet (fail); try go_wp2)
                    go_ret2
                    exact ⟨_, by first | rfl | (simp [errW_none, errW_some] <;> rfl) | (simp only [← hji15]; first | rfl | (simp [errW_none, errW_some] <;> rfl)) | (simp [*, errW_none, errW_some] <;> rfl), by first | exact Kd.R_nil _ _ _ _ _ | exact Kd.N_nil _ _ _ _ _ | exact Kd.V_nil _ _ _ _ _ | exact Kd.Q_nil _ _ _ _ _ | exact Kd.S_nil _ _ _ _ _, by repeat (first | (with_reducible first | exact HB.out | apply below_alloc | apply pw_below_drewN | apply below_drew1) | exact HB.out)⟩
                  · rw [if_neg c19] at H
                    have c19b0 : (((rd_T32 t196 (ji15)).f0) == ((rd_T32 t196 x5_1).f0)) = false := beq_eq_false_iff_ne.mpr c19
                    have c19b1 : (((rd_T32 t196 (ji15)).f0) != ((rd_T32 t196 x5_1).f0)) = true := bne_iff_ne.mpr c19
                    have H' := Aside0.mk H
                    clear H
                    obtain ⟨Ao21, co21, eo21⟩ := Kd.R_slice HO_4.out
                    subst eo21
                    have p199 : 0 ≤ ((ji15) : Int) := of_decide_eq_true (by first | (with_reducible assumption) | assumption)
                    have q199 : (ji15) < (t196.length : Int) := of_decide_eq_true (by first | (with_reducible assumption) | assumption)
                    obtain ⟨ad199, e199, hx199_0, hx199_1, hx199_2, hx199_3, hx199_4, hx199_5, hx199_6⟩ := at_T32 (Kd.R_reads' HO_4.out).2.2 (ji15) p199 q199
                    cases e199
                    replace p199 := eq_true p199
                    replace q199 := eq_true q199
                    have p200 : 0 ≤ (x5_1 : Int) := of_decide_eq_true (by first | (with_reducible assumption) | assumption)
                    have q200 : x5_1 < (t196.length : Int) := of_decide_eq_true (by first | (with_reducible assumption) | assumption)
                    obtain ⟨ad200, e200, hx200_0, hx200_1, hx200_2, hx200_3, hx200_4, hx200_5, hx200_6⟩ := at_T32 (Kd.R_reads' HO_4.out).2.2 x5_1 p200 q200
                    obtain rfl : ad199 = ad200 := (by injection e200)
                    replace p200 := eq_true p200
                    replace q200 := eq_true q200
                    go_wp2
                    repeat (go_quiet (fail); try go_wp2)
                    go_roundg k1
                    case measure => have := HK1.out; omega
                    case rel => exact ⟨(wrap64 (x5_1 + 1)), (by first | rfl | (simp; done) | (simp [*]; done)), H', ⟨by have := HK1.out; omega⟩, ⟨by (with_reducible repeat (first | apply Kd.R_alloc | apply Kd.R_drewN | apply Kd.R_drew)); exact HO_4.out⟩, ⟨by repeat (first | (with_reducible first | exact HB.out | apply below_alloc | apply pw_below_drewN | apply below_drew1) | exact HB.out)⟩⟩
                · rw [if_neg c18] at H
                  exact absurd H (by simp)
              · rw [if_neg c17] at H
                exact absurd H (by simp)
            · rw [if_neg c16] at H
              exact absurd H (by simp)
          · rw [if_neg c14] at H
            have c14b0 : decide (x5_1 < (t196.length : Int)) = false := decide_eq_false c14
            clear c14
            by_cases c22 : (t196.length : Int) > 1024
            · rw [if_pos c22] at H
              have c22b0 : decide (1024 < (t196.length : Int)) = true := decide_eq_true c22
              have c22b1 : decide (1024 < t196.length) = true := decide_eq_true (by omega)
              clear c22
              simp only [Option.some.injEq, Prod.mk.injEq] at H
              obtain ⟨rfl, rfl⟩ := H
              obtain ⟨Ao23, co23, eo23⟩ := Kd.R_slice HO_4.out
              subst eo23
              go_wp2
              repeat (go_quiet (fail); try go_wp2)
              go_ret2
              exact ⟨_, by first | rfl | (simp [errW_none, errW_some] <;> rfl) | (simp [*, errW_none, errW_some] <;> rfl), by first | exact Kd.R_nil _ _ _ _ _ | exact Kd.N_nil _ _ _ _ _ | exact Kd.V_nil _ _ _ _ _ | exact Kd.Q_nil _ _ _ _ _ | exact Kd.S_nil _ _ _ _ _, by repeat (first | (with_reducible first | exact HB.out | apply below_alloc | apply pw_below_drewN | apply below_drew1) | exact HB.out)⟩
            · rw [if_neg c22] at H
              have c22b0 : decide (1024 < (t196.length : Int)) = false := decide_eq_false c22
              have c22b1 : decide (1024 < t196.length) = false := decide_eq_false (by omega)
              clear c22
              simp only [Option.some.injEq, Prod.mk.injEq] at H
              obtain ⟨rfl, rfl⟩ := H
              obtain ⟨Ao24, co24, eo24⟩ := Kd.R_slice HO_4.out
              subst eo24
              go_wp2
              repeat (go_quiet (fail); try go_wp2)
              go_ret2
              exact ⟨_, by first | rfl | (simp [errW_none, errW_some] <;> rfl) | (simp [*, errW_none, errW_some] <;> rfl), by (with_reducible repeat (first | apply Kd.R_alloc | apply Kd.R_drewN | apply Kd.R_drew)); exact HO_4.out, by repeat (first | (with_reducible first | exact HB.out | apply below_alloc | apply pw_below_drewN | apply below_drew1) | exact HB.out)⟩
    · rw [if_neg c4] at H
      exact absurd H (by simp)
  · replace c3 := Bool.eq_false_iff.mpr c3
    subst c3
    have H1 : (some (([] : List (S32)), 1)) = some (r1, r2) := by rw [if_neg (show ¬ (false = true) by decide)] at H; exact H
    clear H
    have H := H1
    clear H1
    simp only [Option.some.injEq, Prod.mk.injEq] at H
    obtain ⟨rfl, rfl⟩ := H
    go_enter Try.func11, Try.ntmps11
    go_wp2_with (first | (go_at_call 24; (with_reducible refine (preds_cmdRight.calls _ _ l0 false _ ?side1 ?side2 A2.out).mono ?_); (case side1 => repeat (first | exact HR0.out | (with_reducible refine Kd.C_alloc ?_ _) | (with_reducible refine Kd.C_drewN ?_ _) | (with_reducible refine Kd.C_drew ?_))); (case side2 => exact HC0.out); rintro e w25 ⟨rfl, hb⟩; have n0_ := Aside0.mk (below_step (by repeat (first | (with_reducible first | exact HB.out | apply below_alloc | apply pw_below_drewN | apply below_drew1) | exact HB.out)) hb); clear HB; have HB := n0_; clear n0_; (try clear hb); (try clear hb2); (try clear hk); (try clear hi)))
    repeat (go_quiet (first | (go_at_call 24; (with_reducible refine (preds_cmdRight.calls _ _ l0 false _ ?side1 ?side2 A2.out).mono ?_); (case side1 => repeat (first | exact HR0.out | (with_reducible refine Kd.C_alloc ?_ _) | (with_reducible refine Kd.C_drewN ?_ _) | (with_reducible refine Kd.C_drew ?_))); (case side2 => exact HC0.out); rintro e w25 ⟨rfl, hb⟩; have n0_ := Aside0.mk (below_step (by repeat (first | (with_reducible first | exact HB.out | apply below_alloc | apply pw_below_drewN | apply below_drew1) | exact HB.out)) hb); clear HB; have HB := n0_; clear n0_; (try clear hb); (try clear hb2); (try clear hk); (try clear hi))); try go_wp2_with (first | (go_at_call 24; (with_reducible refine (preds_cmdRight.calls _ _ l0 false _ ?side1 ?side2 A2.out).mono ?_); (case side1 => repeat (first | exact HR0.out | (with_reducible refine Kd.C_alloc ?_ _) | (with_reducible refine Kd.C_drewN ?_ _) | (with_reducible refine Kd.C_drew ?_))); (case side2 => exact HC0.out); rintro e w25 ⟨rfl, hb⟩; have n0_ := Aside0.mk (below_step (by repeat (first | (with_reducible first | exact HB.out | apply below_alloc | apply pw_below_drewN | apply below_drew1) | exact HB.out)) hb); clear HB; have HB := n0_; clear n0_; (try clear hb); (try clear hb2); (try clear hk); (try clear hi))))
    go_ret2
    exact ⟨_, by first | rfl | (simp [errW_none, errW_some] <;> rfl) | (simp [*, errW_none, errW_some] <;> rfl), by first | exact Kd.R_nil _ _ _ _ _ | exact Kd.N_nil _ _ _ _ _ | exact Kd.V_nil _ _ _ _ _ | exact Kd.Q_nil _ _ _ _ _ | exact Kd.S_nil _ _ _ _ _, by repeat (first | (with_reducible first | exact HB.out | apply below_alloc | apply pw_below_drewN | apply below_drew1) | exact HB.out)⟩

end Go.Proofs.Ytmlgklklikgafaa.PPredsTells
