-- Written by a program of this session, which is the kit's print with hand-given functions (wip/tools/mkprint.py).
import Derived.Test.YtcfakoocldahaaaPFrameTellsx0
import Derived.Test.YtcfakoocldahaaaPFrameTellsx1
namespace Go.Proofs.Ytcfakoocldahaaa.PFrameTells
open Go.RowKit Go.Proofs.YtcfakoocldahaaaW.PrintWords Go.Proofs.YtcfakoocldahaaaW.PrintLast Go.Proofs.YtcfakoocldahaaaW.PrintMore
attribute [local go_sem] max2_int min2_int max_two min_two max_three min_three max_four min_four   -- for this text's walks alone
set_option linter.unusedVariables false
set_option linter.unusedSimpArgs false

/-! ### frame_first: function 13 -/
def frame_first.j0 : Nat → List Int → Int → Bool → Option (List Int × Bool)
  | 0, _, _, _ => none
  | k + 1, x0, x4, x28 => if x28 = true then (some (([] : List Int), false)) else (if 2 ≤ (wrap64 (2 + x4)) then (if (wrap64 (2 + x4)) ≤ (x0.length : Int) then ((bytes_Clone.f ((x0.take ((wrap64 (2 + x4)) : Int).toNat).drop 2)).bind fun t125 => (if 0 ≤ (wrap64 (2 + x4)) then (if (wrap64 (2 + x4)) ≤ (wrap64 ((wrap64 (2 + x4)) + 4)) then (if (wrap64 ((wrap64 (2 + x4)) + 4)) ≤ (x0.length : Int) then ((frame_Sum.f k t125).bind fun t129 => ((frame_low.f k (IntKind.u64.wrap (t129)) 4).bind fun t130 => ((bytes_Equal.f ((x0.take ((wrap64 ((wrap64 (2 + x4)) + 4)) : Int).toNat).drop ((wrap64 (2 + x4)) : Int).toNat) t130).bind fun t133 => (some (t125, t133))))) else (none)) else (none)) else (none))) else (none)) else (none))
def frame_first.f (k : Nat) (l0 : List Int) : Option (List Int × Bool) := if (l0.length : Int) < 2 then (some (([] : List Int), false)) else (if 0 < (l0.length : Int) then (if 1 < (l0.length : Int) then (if (Go.bits .or .i64 (wrap64 (rd l0 0)) (wrap64 ((wrap64 (rd l0 1)) * 256))) < 1 then (frame_first.j0 k l0 (Go.bits .or .i64 (wrap64 (rd l0 0)) (wrap64 ((wrap64 (rd l0 1)) * 256))) true) else (frame_first.j0 k l0 (Go.bits .or .i64 (wrap64 (rd l0 0)) (wrap64 ((wrap64 (rd l0 1)) * 256))) (decide ((l0.length : Int) < (wrap64 ((wrap64 (2 + (Go.bits .or .i64 (wrap64 (rd l0 0)) (wrap64 ((wrap64 (rd l0 1)) * 256))))) + 4)))))) else (none)) else (none))
theorem frame_first.mono_l : ∀ k, (∀ y0 y1 y2, LeO (frame_first.j0 k y0 y1 y2) (frame_first.j0 (k + 1) y0 y1 y2))
  | 0 => fun _ _ _ r h => by simp [frame_first.j0] at h
  | k + 1 => by
    have ih0 := frame_first.mono_l k
    · intro y0 y1 y2
      unfold frame_first.j0
      repeat' first
      | (with_reducible exact ih0 _ _ _)
      | (with_reducible exact frame_Sum.mono _ _)
      | (with_reducible exact frame_low.mono _ _ _)
      | (with_reducible exact LeO.refl _)
      | (with_reducible exact LeO.none _)
      | (with_reducible refine LeO.ite ?_ ?_)
      | (with_reducible refine LeO.bind ?_ (fun _ => ?_))
      | exact ih0 _ _ _
      | exact frame_Sum.mono _ _
      | exact frame_low.mono _ _ _
      | exact LeO.none _
      | refine LeO.ite ?_ ?_
      | refine LeO.bind ?_ (fun _ => ?_)
theorem frame_first.mono : ∀ a0 k, LeO (frame_first.f k a0) (frame_first.f (k + 1) a0) := by
  intro a0 k
  have ih0 := frame_first.mono_l k
  unfold frame_first.f
  repeat' first
      | (with_reducible exact ih0 _ _ _)
      | (with_reducible exact frame_Sum.mono _ _)
      | (with_reducible exact frame_low.mono _ _ _)
      | (with_reducible exact LeO.refl _)
      | (with_reducible exact LeO.none _)
      | (with_reducible refine LeO.ite ?_ ?_)
      | (with_reducible refine LeO.bind ?_ (fun _ => ?_))
      | exact ih0 _ _ _
      | exact frame_Sum.mono _ _
      | exact frame_low.mono _ _ _
      | exact LeO.none _
      | refine LeO.ite ?_ ?_
      | refine LeO.bind ?_ (fun _ => ?_)
def frame_first.T3 : Bool × List (List Nat × List Nat) := (true, [([], []), ([0], [0]), ([1], [1]), ([2], [2]), ([], []), ([4], [4]), ([5], [5]), ([6], [6]), ([7], [7]), ([3, 8], [3, 8]), ([9, 0, 1, 2, 3, 4, 5, 6, 7, 8, 9], [9])])
def frame_first.B3 : List Nat := [0, 1, 3, 7, 0, 16, 48, 112, 240, 511, 1023]
theorem frame_first.tab3 : rtab .any (opsOf Try.f13 3) = frame_first.T3 := by kernel_rfl
theorem frame_first.bits3 : waitsOk frame_first.T3.2 frame_first.B3 = true := by kernel_rfl
def frame_first.T7 : Bool × List (List Nat × List Nat) := (true, [([], []), ([], []), ([], []), ([2], [2]), ([], []), ([4], [4]), ([5], [5]), ([1, 3, 6], [1, 3, 6]), ([], []), ([8], [8]), ([9], [9]), ([10, 9], [10]), ([7, 11, 11], [7, 11]), ([0, 12, 0], [0]), ([12, 13, 0, 1, 2, 3, 4, 5, 6, 7, 8, 9, 10, 11, 12, 13], [12])])
def frame_first.B7 : List Nat := [0, 0, 0, 4, 0, 16, 48, 126, 0, 256, 768, 1792, 4094, 8191, 16383]
theorem frame_first.tab7 : rtab .any (opsOf Try.f13 7) = frame_first.T7 := by kernel_rfl
theorem frame_first.bits7 : waitsOk frame_first.T7.2 frame_first.B7 = true := by kernel_rfl
set_option maxHeartbeats 8000000 in
set_option maxRecDepth 100000 in
theorem frame_first.calls (k : Nat) (A0 : Option Addr) (c0 : Nat) (l0 : List Int) (r1 : List Int) (r2 : Bool) (w : World) (hr0 : Kd.C (Kd.int .u8) w A0 l0.length l0) (hc0 : l0.length ≤ c0) (h : frame_first.f k l0 = some (r1, r2)) :
    Calls Try.prog 13 #[.slice A0 l0.length c0] w fun e w' => ∃ v0_ : Value, e = .returned (.tuple #[v0_, .bool r2]) ∧ Kd.R (Kd.int .u8) 5 w' w.heap.size (fun _ => True) v0_ r1 ∧ Below w.heap.size w w' := by
  have HR0 := Aside0.mk hr0
  have HC0 := Aside0.mk hc0
  clear hr0 hc0
  have HB := Aside0.mk (Below.refl w.heap.size w)
  have H : (if (l0.length : Int) < 2 then (some (([] : List Int), false)) else (if 0 < (l0.length : Int) then (if 1 < (l0.length : Int) then (if (Go.bits .or .i64 (wrap64 (rd l0 0)) (wrap64 ((wrap64 (rd l0 1)) * 256))) < 1 then (frame_first.j0 k l0 (Go.bits .or .i64 (wrap64 (rd l0 0)) (wrap64 ((wrap64 (rd l0 1)) * 256))) true) else (frame_first.j0 k l0 (Go.bits .or .i64 (wrap64 (rd l0 0)) (wrap64 ((wrap64 (rd l0 1)) * 256))) (decide ((l0.length : Int) < (wrap64 ((wrap64 (2 + (Go.bits .or .i64 (wrap64 (rd l0 0)) (wrap64 ((wrap64 (rd l0 1)) * 256))))) + 4)))))) else (none)) else (none))) = some (r1, r2) := h
  clear h
  by_cases c2 : (l0.length : Int) < 2
  · rw [if_pos c2] at H
    have c2b0 : decide ((l0.length : Int) < 2) = true := decide_eq_true c2
    have c2b1 : decide (l0.length < 2) = true := decide_eq_true (by omega)
    clear c2
    simp only [Option.some.injEq, Prod.mk.injEq] at H
    obtain ⟨rfl, rfl⟩ := H
    go_enter Try.func13, Try.ntmps13
    go_wp2
    go_ret2
    exact ⟨_, by first | rfl | (simp [errW_none, errW_some] <;> rfl) | (simp [*, errW_none, errW_some] <;> rfl), by first | exact Kd.R_nil _ _ _ _ _ | exact Kd.N_nil _ _ _ _ _ | exact Kd.V_nil _ _ _ _ _ | exact Kd.Q_nil _ _ _ _ _ | exact Kd.S_nil _ _ _ _ _, by repeat (first | (with_reducible first | exact HB.out | apply below_alloc | apply pw_below_drewN | apply below_drew1) | exact HB.out)⟩
  · rw [if_neg c2] at H
    have c2b0 : decide ((l0.length : Int) < 2) = false := decide_eq_false c2
    have c2b1 : decide (l0.length < 2) = false := decide_eq_false (by omega)
    clear c2
    by_cases c3 : 0 < (l0.length : Int)
    · rw [if_pos c3] at H
      have c3b0 : decide (0 < (l0.length : Int)) = true := decide_eq_true c3
      have c3b1 : decide (0 < l0.length) = true := decide_eq_true (by omega)
      clear c3
      by_cases c4 : 1 < (l0.length : Int)
      · rw [if_pos c4] at H
        have c4b0 : decide (1 < (l0.length : Int)) = true := decide_eq_true c4
        have c4b1 : decide (1 < l0.length) = true := decide_eq_true (by omega)
        clear c4
        have HC5 := Aside0.mk H
        clear H
        go_enter Try.func13, Try.ntmps13
        try go_wp2
        have n0_ := Aside0.mk (below_drew1 HB.out)
        clear HB
        have HB := n0_
        clear n0_
        have p119 : 0 ≤ (0 : Int) := (by omega)
        have q119 : 0 < (l0.length : Int) := of_decide_eq_true (by first | (with_reducible assumption) | assumption)
        obtain ⟨ad119, e119, hx119_0⟩ := Kd.at_int HR0.out 0 p119 q119
        have hw119_0 := hx119_0
        (try rw [show ((0 : Int)).toNat = 0 from rfl] at hw119_0)
        (try rw [show 0 * 1 = 0 from rfl] at hw119_0)
        (try rw [Addr.add_zero'] at hw119_0)
        cases e119
        have qi119 : (0 < l0.length) = True := eq_true (by omega)
        (try rw [show ((0 : Int)).toNat = 0 from rfl] at hx119_0)
        (try rw [Addr.add_zero'] at hx119_0)
        replace hx119_0 := (HB.out.cell (World.block_lt_of_cell? w _ hx119_0)).trans hx119_0
        replace p119 := eq_true p119
        replace q119 := eq_true q119
        have p120 : 0 ≤ (1 : Int) := (by omega)
        have q120 : 1 < (l0.length : Int) := of_decide_eq_true (by first | (with_reducible assumption) | assumption)
        obtain ⟨ad120, e120, hx120_0⟩ := Kd.at_int HR0.out 1 p120 q120
        have hw120_0 := hx120_0
        (try rw [show ((1 : Int)).toNat = 1 from rfl] at hw120_0)
        (try rw [show 1 * 1 = 1 from rfl] at hw120_0)
        (try simp only [Nat.reduceMul, Nat.reduceEqDiff, Go.Addr.add, ↓reduceIte] at hw120_0)
        obtain rfl : ad119 = ad120 := (by injection e120)
        (try simp only [show (1 : Int).toNat = 1 from rfl, Nat.reduceMul, Nat.reduceEqDiff, Go.Addr.add, ↓reduceIte] at hx120_0)
        have qi120 : (1 < l0.length) = True := eq_true (by omega)
        (try rw [show ((1 : Int)).toNat = 1 from rfl] at hx120_0)
        replace hx120_0 := (HB.out.cell (World.block_lt_of_cell? w _ hx120_0)).trans hx120_0
        replace p120 := eq_true p120
        replace q120 := eq_true q120
        refine start_ (n := 11) (S := fun w' => w'.cell? ad119 = some (.int .u8 (rd l0 0)) ∧ w'.cell? ⟨ad119.block, ad119.off + 1, none⟩ = some (.int .u8 (rd l0 1))) (ds := []) #[false, false, false, false, false, false, false, false, false, false, false] (by kernel_rfl) rfl rfl ⟨((HB.out.cell (World.block_lt_of_cell? w _ hw119_0)).trans hw119_0), ((HB.out.cell (World.block_lt_of_cell? w _ hw120_0)).trans hw120_0)⟩ (fun hHeld => ?_); refine with_tabW frame_first.tab3 frame_first.bits3 (fun HT_ HW_ => ?_)
        generalize w.drew = w6 at HB hx119_0 hx120_0 hHeld ⊢
        refine pure_ (i := 0) (N := some 9) (v := ?_) (a' := ?_) #[true, false, false, false, false, false, false, false, false, false, false] rfl rfl (any_of HT_.out (by kernel_rfl)) (fun _ _ _ h => h) (Or.inl ⟨by rfl, ?_⟩) ?_ ?_
        rotate_left
        · intro w'
          go_simp
          with_reducible rfl
        rotate_left
        · simp only [Act.put, List.setIfInBounds_toArray, List.set_cons_zero, List.set_cons_succ, i64_w, i32_w]
          rfl
        refine pure_ (i := 1) (N := some 10) (v := ?_) (a' := ?_) #[true, true, false, false, false, false, false, false, false, false, false] rfl rfl (any_of HT_.out (by kernel_rfl)) (fun _ _ _ h => h) (Or.inl ⟨by rfl, ?_⟩) ?_ ?_
        rotate_left
        · intro w'
          go_simp
          with_reducible rfl
        rotate_left
        · simp only [Act.put, List.setIfInBounds_toArray, List.set_cons_zero, List.set_cons_succ, i64_w, i32_w]
          rfl
        refine pure_ (i := 4) (N := some 13) (v := ?_) (a' := ?_) #[true, true, false, false, true, false, false, false, false, false, false] rfl rfl (any_of HT_.out (by kernel_rfl)) (fun _ _ _ h => h) (Or.inl ⟨by rfl, ?_⟩) ?_ ?_
        rotate_left
        · intro w'
          go_simp
          with_reducible rfl
        rotate_left
        · simp only [Act.put, List.setIfInBounds_toArray, List.set_cons_zero, List.set_cons_succ, i64_w, i32_w]
          rfl
        refine pure_ (i := 5) (N := some 14) (v := ?_) (a' := ?_) #[true, true, false, false, true, true, false, false, false, false, false] rfl rfl (any_of HT_.out (by kernel_rfl)) (fun _ _ _ h => h) (Or.inl ⟨by rfl, ?_⟩) ?_ ?_
        rotate_left
        · intro w'
          go_simp
          with_reducible rfl
        rotate_left
        · simp only [Act.put, List.setIfInBounds_toArray, List.set_cons_zero, List.set_cons_succ, i64_w, i32_w]
          rfl
        refine take_ (i := 2) (N := some 11) (v := ?_) (a' := ?_) #[true, true, true, false, true, true, false, false, false, false, false] rfl rfl (take_ofW HT_.out HW_.out (by kernel_rfl)) (fun _ _ _ h => h) (Or.inl ⟨by rfl, ?_⟩) hHeld ?_ ?_
        rotate_left
        · rintro w' ⟨s0, s1⟩
          go_simp
          with_reducible rfl
        rotate_left
        · simp only [Act.put, List.setIfInBounds_toArray, List.set_cons_zero, List.set_cons_succ, i64_w, i32_w]
          rfl
        refine pure_ (i := 3) (N := some 12) (v := ?_) (a' := ?_) #[true, true, true, true, true, true, false, false, false, false, false] rfl rfl (any_of HT_.out (by kernel_rfl)) (fun _ _ _ h => h) (Or.inl ⟨by rfl, ?_⟩) ?_ ?_
        rotate_left
        · intro w'
          go_simp
          with_reducible rfl
        rotate_left
        · simp only [Act.put, List.setIfInBounds_toArray, List.set_cons_zero, List.set_cons_succ, i64_w, i32_w]
          rfl
        refine take_ (i := 6) (N := some 15) (v := ?_) (a' := ?_) #[true, true, true, true, true, true, true, false, false, false, false] rfl rfl (take_ofW HT_.out HW_.out (by kernel_rfl)) (fun _ _ _ h => h) (Or.inl ⟨by rfl, ?_⟩) hHeld ?_ ?_
        rotate_left
        · rintro w' ⟨s0, s1⟩
          go_simp
          with_reducible rfl
        rotate_left
        · simp only [Act.put, List.setIfInBounds_toArray, List.set_cons_zero, List.set_cons_succ, i64_w, i32_w]
          rfl
        refine pure_ (i := 7) (N := some 16) (v := ?_) (a' := ?_) #[true, true, true, true, true, true, true, true, false, false, false] rfl rfl (any_of HT_.out (by kernel_rfl)) (fun _ _ _ h => h) (Or.inl ⟨by rfl, ?_⟩) ?_ ?_
        rotate_left
        · intro w'
          go_simp
          with_reducible rfl
        rotate_left
        · simp only [Act.put, List.setIfInBounds_toArray, List.set_cons_zero, List.set_cons_succ, i64_w, i32_w]
          rfl
        refine pure_ (i := 8) (N := some 17) (v := ?_) (a' := ?_) #[true, true, true, true, true, true, true, true, true, false, false] rfl rfl (any_of HT_.out (by kernel_rfl)) (fun _ _ _ h => h) (Or.inl ⟨by rfl, ?_⟩) ?_ ?_
        rotate_left
        · intro w'
          go_simp
          with_reducible rfl
        rotate_left
        · simp only [Act.put, List.setIfInBounds_toArray, List.set_cons_zero, List.set_cons_succ, i64_w, i32_w]
          rfl
        refine pure_ (i := 9) (N := some 18) (v := ?_) (a' := ?_) #[true, true, true, true, true, true, true, true, true, true, false] rfl rfl (any_of HT_.out (by kernel_rfl)) (fun _ _ _ h => h) (Or.inl ⟨by rfl, ?_⟩) ?_ ?_
        rotate_left
        · intro w'
          go_simp
          with_reducible rfl
        rotate_left
        · simp only [Act.put, List.setIfInBounds_toArray, List.set_cons_zero, List.set_cons_succ, i64_w, i32_w]
          rfl
        refine pure_ (i := 10) (N := some 4) (v := ?_) (a' := ?_) #[true, true, true, true, true, true, true, true, true, true, true] rfl rfl (any_of HT_.out (by kernel_rfl)) (fun _ _ _ h => h) (Or.inl ⟨by rfl, ?_⟩) ?_ ?_
        rotate_left
        · intro w'
          go_simp
          with_reducible rfl
        rotate_left
        · simp only [Act.put, List.setIfInBounds_toArray, List.set_cons_zero, List.set_cons_succ, i64_w, i32_w]
          rfl
        refine done_ (done_of HT_.out (by kernel_rfl)) ?_
        go_upto_region 4 with (fail)
        go_cut [28] (fun v28 wc => ∃ (kq : Nat) (x28_4 : Bool), v28 = .bool x28_4 ∧ Aside0 (frame_first.j0 kq l0 (Go.bits .or .i64 (wrap64 (rd l0 0)) (wrap64 ((wrap64 (rd l0 1)) * 256))) x28_4 = some (r1, r2)) ∧ Aside0 (kq ≤ k) ∧ Aside0 (Below w.heap.size w wc))
        case first =>
          have H := HC5.out
          clear HC5
          by_cases c7 : (Go.bits .or .i64 (wrap64 (rd l0 0)) (wrap64 ((wrap64 (rd l0 1)) * 256))) < 1
          · rw [if_pos c7] at H
            have c7b0 : decide ((Go.bits .or .i64 (wrap64 (rd l0 0)) (wrap64 ((wrap64 (rd l0 1)) * 256))) < 1) = true := decide_eq_true c7
            clear c7
            (first | rw [c7b0] | (simp only [i64_w, i32_w]; rw [c7b0]) | skip)
            have H' := Aside0.mk H
            clear H
            go_wp2
            go_meet
            case rel => exact ⟨_, (true), (by first | rfl | (simp; done) | (simp [*]; done)), H', ⟨by first | omega | exact Nat.le_refl _⟩, ⟨by repeat (first | (with_reducible first | exact HB.out | apply below_alloc | apply pw_below_drewN | apply below_drew1) | exact HB.out)⟩⟩
          · rw [if_neg c7] at H
            have c7b0 : decide ((Go.bits .or .i64 (wrap64 (rd l0 0)) (wrap64 ((wrap64 (rd l0 1)) * 256))) < 1) = false := decide_eq_false c7
            clear c7
            (first | rw [c7b0] | (simp only [i64_w, i32_w]; rw [c7b0]) | skip)
            have H' := Aside0.mk H
            clear H
            go_wp2
            go_meet
            case rel => exact ⟨_, (decide ((l0.length : Int) < (wrap64 ((wrap64 (2 + (Go.bits .or .i64 (wrap64 (rd l0 0)) (wrap64 ((wrap64 (rd l0 1)) * 256))))) + 4)))), (by first | rfl | (simp; done) | (simp [*]; done)), H', ⟨by first | omega | exact Nat.le_refl _⟩, ⟨by repeat (first | (with_reducible first | exact HB.out | apply below_alloc | apply pw_below_drewN | apply below_drew1) | exact HB.out)⟩⟩
        case rest =>
          clear HC5
          try clear c1
          try clear p1
          try clear q1
          try clear hx1
          try clear qi1
          try clear c2
          try clear c2b0
          try clear c2b1
          try clear p2
          try clear c3
          try clear c3b0
          try clear c3b1
          try clear c4
          try clear c4b0
          try clear c4b1
          try clear p6
          try clear c7
          try clear c7b0
          try clear hx119_0
          try clear hx120_0
          try clear p119
          try clear p120
          try clear q119
          try clear q120
          obtain ⟨kq, x28_4, rfl, HA, HJ4, HB⟩ := hcut
          cases kq with
          | zero => exact absurd HA.out (by simp [frame_first.j0])
          | succ kj4 =>
            have H := HA.out
            clear HA
            simp only [frame_first.j0] at H
            by_cases c8 : x28_4 = true
            · subst c8
              have H1 : (some (([] : List Int), false)) = some (r1, r2) := by rw [if_pos rfl] at H; exact H
              clear H
              have H := H1
              clear H1
              simp only [Option.some.injEq, Prod.mk.injEq] at H
              obtain ⟨rfl, rfl⟩ := H
              go_wp2
              go_ret2
              exact ⟨_, by first | rfl | (simp [errW_none, errW_some] <;> rfl) | (simp [*, errW_none, errW_some] <;> rfl), by first | exact Kd.R_nil _ _ _ _ _ | exact Kd.N_nil _ _ _ _ _ | exact Kd.V_nil _ _ _ _ _ | exact Kd.Q_nil _ _ _ _ _ | exact Kd.S_nil _ _ _ _ _, by repeat (first | (with_reducible first | exact HB.out | apply below_alloc | apply pw_below_drewN | apply below_drew1) | exact HB.out)⟩
            · replace c8 := Bool.eq_false_iff.mpr c8
              subst c8
              have H1 : (if 2 ≤ (wrap64 (2 + (Go.bits .or .i64 (wrap64 (rd l0 0)) (wrap64 ((wrap64 (rd l0 1)) * 256))))) then (if (wrap64 (2 + (Go.bits .or .i64 (wrap64 (rd l0 0)) (wrap64 ((wrap64 (rd l0 1)) * 256))))) ≤ (l0.length : Int) then ((bytes_Clone.f ((l0.take ((wrap64 (2 + (Go.bits .or .i64 (wrap64 (rd l0 0)) (wrap64 ((wrap64 (rd l0 1)) * 256))))) : Int).toNat).drop 2)).bind fun t125 => (if 0 ≤ (wrap64 (2 + (Go.bits .or .i64 (wrap64 (rd l0 0)) (wrap64 ((wrap64 (rd l0 1)) * 256))))) then (if (wrap64 (2 + (Go.bits .or .i64 (wrap64 (rd l0 0)) (wrap64 ((wrap64 (rd l0 1)) * 256))))) ≤ (wrap64 ((wrap64 (2 + (Go.bits .or .i64 (wrap64 (rd l0 0)) (wrap64 ((wrap64 (rd l0 1)) * 256))))) + 4)) then (if (wrap64 ((wrap64 (2 + (Go.bits .or .i64 (wrap64 (rd l0 0)) (wrap64 ((wrap64 (rd l0 1)) * 256))))) + 4)) ≤ (l0.length : Int) then ((frame_Sum.f kj4 t125).bind fun t129 => ((frame_low.f kj4 (IntKind.u64.wrap (t129)) 4).bind fun t130 => ((bytes_Equal.f ((l0.take ((wrap64 ((wrap64 (2 + (Go.bits .or .i64 (wrap64 (rd l0 0)) (wrap64 ((wrap64 (rd l0 1)) * 256))))) + 4)) : Int).toNat).drop ((wrap64 (2 + (Go.bits .or .i64 (wrap64 (rd l0 0)) (wrap64 ((wrap64 (rd l0 1)) * 256))))) : Int).toNat) t130).bind fun t133 => (some (t125, t133))))) else (none)) else (none)) else (none))) else (none)) else (none)) = some (r1, r2) := by rw [if_neg (show ¬ (false = true) by decide)] at H; exact H
              clear H
              have H := H1
              clear H1
              by_cases c9 : 2 ≤ (wrap64 (2 + (Go.bits .or .i64 (wrap64 (rd l0 0)) (wrap64 ((wrap64 (rd l0 1)) * 256)))))
              · rw [if_pos c9] at H
                have c9b0 := eq_true c9
                have c9b1 : decide (2 ≤ (wrap64 (2 + (Go.bits .or .i64 (wrap64 (rd l0 0)) (wrap64 ((wrap64 (rd l0 1)) * 256)))))) = true := decide_eq_true c9
                by_cases c10 : (wrap64 (2 + (Go.bits .or .i64 (wrap64 (rd l0 0)) (wrap64 ((wrap64 (rd l0 1)) * 256))))) ≤ (l0.length : Int)
                · rw [if_pos c10] at H
                  have c10b0 := eq_true c10
                  have c10b1 : decide ((wrap64 (2 + (Go.bits .or .i64 (wrap64 (rd l0 0)) (wrap64 ((wrap64 (rd l0 1)) * 256))))) ≤ (l0.length : Int)) = true := decide_eq_true c10
                  obtain ⟨y121, hy121⟩ : ∃ y_ : List Int, y_ = ((l0.take ((wrap64 (2 + (Go.bits .or .i64 (wrap64 (rd l0 0)) (wrap64 ((wrap64 (rd l0 1)) * 256))))) : Int).toNat).drop 2) := ⟨_, rfl⟩
                  replace H : ((bytes_Clone.f y121).bind fun t125 => (if 0 ≤ (wrap64 (2 + (Go.bits .or .i64 (wrap64 (rd l0 0)) (wrap64 ((wrap64 (rd l0 1)) * 256))))) then (if (wrap64 (2 + (Go.bits .or .i64 (wrap64 (rd l0 0)) (wrap64 ((wrap64 (rd l0 1)) * 256))))) ≤ (wrap64 ((wrap64 (2 + (Go.bits .or .i64 (wrap64 (rd l0 0)) (wrap64 ((wrap64 (rd l0 1)) * 256))))) + 4)) then (if (wrap64 ((wrap64 (2 + (Go.bits .or .i64 (wrap64 (rd l0 0)) (wrap64 ((wrap64 (rd l0 1)) * 256))))) + 4)) ≤ (l0.length : Int) then ((frame_Sum.f kj4 t125).bind fun t129 => ((frame_low.f kj4 (IntKind.u64.wrap (t129)) 4).bind fun t130 => ((bytes_Equal.f ((l0.take ((wrap64 ((wrap64 (2 + (Go.bits .or .i64 (wrap64 (rd l0 0)) (wrap64 ((wrap64 (rd l0 1)) * 256))))) + 4)) : Int).toNat).drop ((wrap64 (2 + (Go.bits .or .i64 (wrap64 (rd l0 0)) (wrap64 ((wrap64 (rd l0 1)) * 256))))) : Int).toNat) t130).bind fun t133 => (some (t125, t133))))) else (none)) else (none)) else (none))) = some (r1, r2) := by first | (rw [hy121]; with_reducible exact H) | (have H2_ := (Option.bind_some _ _).symm.trans H; rw [hy121]; with_reducible exact H2_) | (have H2_ := (Option.bind_some _ _).symm.trans H; with_reducible exact H2_) | with_reducible exact H | (rw [hy121]; exact H) | exact H
                  have Ny121 := Aside0.mk hy121
                  clear hy121
                  replace H := Option.bind_eq_some_iff.mp H
                  obtain ⟨t125, A110, H⟩ := H
                  replace H : (if 0 ≤ (wrap64 (2 + (Go.bits .or .i64 (wrap64 (rd l0 0)) (wrap64 ((wrap64 (rd l0 1)) * 256))))) then (if (wrap64 (2 + (Go.bits .or .i64 (wrap64 (rd l0 0)) (wrap64 ((wrap64 (rd l0 1)) * 256))))) ≤ (wrap64 ((wrap64 (2 + (Go.bits .or .i64 (wrap64 (rd l0 0)) (wrap64 ((wrap64 (rd l0 1)) * 256))))) + 4)) then (if (wrap64 ((wrap64 (2 + (Go.bits .or .i64 (wrap64 (rd l0 0)) (wrap64 ((wrap64 (rd l0 1)) * 256))))) + 4)) ≤ (l0.length : Int) then ((frame_Sum.f kj4 t125).bind fun t129 => ((frame_low.f kj4 (IntKind.u64.wrap (t129)) 4).bind fun t130 => ((bytes_Equal.f ((l0.take ((wrap64 ((wrap64 (2 + (Go.bits .or .i64 (wrap64 (rd l0 0)) (wrap64 ((wrap64 (rd l0 1)) * 256))))) + 4)) : Int).toNat).drop ((wrap64 (2 + (Go.bits .or .i64 (wrap64 (rd l0 0)) (wrap64 ((wrap64 (rd l0 1)) * 256))))) : Int).toNat) t130).bind fun t133 => (some (t125, t133))))) else (none)) else (none)) else (none)) = some (r1, r2) := H
                  have A11 := Aside0.mk A110
                  clear A110
                  obtain ⟨ji12, hji12⟩ : ∃ j_ : Int, (wrap64 (2 + (Go.bits .or .i64 (wrap64 (rd l0 0)) (wrap64 ((wrap64 (rd l0 1)) * 256))))) = j_ := ⟨_, rfl⟩
                  replace H : (if 0 ≤ (ji12) then (if (ji12) ≤ (wrap64 ((ji12) + 4)) then (if (wrap64 ((ji12) + 4)) ≤ (l0.length : Int) then ((frame_Sum.f kj4 t125).bind fun t129 => ((frame_low.f kj4 (IntKind.u64.wrap (t129)) 4).bind fun t130 => ((bytes_Equal.f ((l0.take ((wrap64 ((ji12) + 4)) : Int).toNat).drop ((ji12) : Int).toNat) t130).bind fun t133 => (some (t125, t133))))) else (none)) else (none)) else (none)) = some (r1, r2) := by first | (rw [hji12] at H; exact H) | (simp only [hji12] at H ⊢; exact H)
                  (try rw [hji12] at c9b0)
                  (try rw [hji12] at c9b1)
                  (try rw [hji12] at c9)
                  (try rw [hji12] at c10b0)
                  (try rw [hji12] at c10b1)
                  (try rw [hji12] at c10)
                  (try rw [hji12] at Ny121)
                  (try rw [hji12] at A11)
                  have hji12w : (IntKind.i64.wrap (2 + (Go.bits .or .i64 (wrap64 (rd l0 0)) (wrap64 ((wrap64 (rd l0 1)) * 256))))) = ji12 := (i64_w _).trans hji12
                  by_cases c13 : 0 ≤ (ji12)
                  · rw [if_pos c13] at H
                    have c13b0 := eq_true c13
                    have c13b1 : decide (0 ≤ (ji12)) = true := decide_eq_true c13
                    clear c13
                    by_cases c14 : (ji12) ≤ (wrap64 ((ji12) + 4))
                    · rw [if_pos c14] at H
                      have c14b0 := eq_true c14
                      have c14b1 : decide ((ji12) ≤ (wrap64 ((ji12) + 4))) = true := decide_eq_true c14
                      by_cases c15 : (wrap64 ((ji12) + 4)) ≤ (l0.length : Int)
                      · rw [if_pos c15] at H
                        have c15b0 := eq_true c15
                        have c15b1 : decide ((wrap64 ((ji12) + 4)) ≤ (l0.length : Int)) = true := decide_eq_true c15
                        replace H := Option.bind_eq_some_iff.mp H
                        obtain ⟨t129, A160, H⟩ := H
                        replace H : ((frame_low.f kj4 (IntKind.u64.wrap (t129)) 4).bind fun t130 => ((bytes_Equal.f ((l0.take ((wrap64 ((ji12) + 4)) : Int).toNat).drop ((ji12) : Int).toNat) t130).bind fun t133 => (some (t125, t133)))) = some (r1, r2) := H
                        have A16 := Aside0.mk A160
                        clear A160
                        replace H := Option.bind_eq_some_iff.mp H
                        obtain ⟨t130, A170, H⟩ := H
                        replace H : ((bytes_Equal.f ((l0.take ((wrap64 ((ji12) + 4)) : Int).toNat).drop ((ji12) : Int).toNat) t130).bind fun t133 => (some (t125, t133))) = some (r1, r2) := H
                        have A17 := Aside0.mk A170
                        clear A170
                        replace H := Option.bind_eq_some_iff.mp H
                        obtain ⟨t133, A180, H⟩ := H
                        replace H : (some (t125, t133)) = some (r1, r2) := H
                        have A18 := Aside0.mk A180
                        clear A180
                        simp only [Option.some.injEq, Prod.mk.injEq] at H
                        obtain ⟨rfl, rfl⟩ := H
                        have q19 : ((ji12) : Int) ≤ ((l0.length : Int) : Int) := of_decide_eq_true (by first | (with_reducible assumption) | assumption)
                        obtain ⟨i019, hi019, _, hsz19, _⟩ := info_parts info5
                        have hroom19 : l0.length ≤ c0 := HC0.out
                        have hC19 : Kd.C (Kd.int .u8) _ (some ad119) l0.length l0 := HR0.out
                        have ql19 : (2 : Int) ≤ ((ji12) : Int) := of_decide_eq_true (by first | (with_reducible assumption) | assumption)
                        have hcut19 := cut_mid (P := Try.prog) 22 5 .i64 .i64 Try.underlying22 hi019 1 hsz19 (some ad119) l0.length c0 2 (ji12) (by omega) ql19 q19 hroom19
                        have hr19 := Kd.C_mid (lo := (2 : Int).toNat) (hi := ((ji12) : Int).toNat) (c := c0) hC19 (by omega) (by omega) hroom19
                        obtain ⟨A19, hA19⟩ : ∃ A1, A1 = (if c0 = (2 : Int).toNat then (some ad119) else ((some ad119) : Option Addr).map (·.add ((2 : Int).toNat * 1))) := ⟨_, rfl⟩
                        obtain ⟨c19, hc19⟩ : ∃ c1, c1 = c0 - (2 : Int).toNat := ⟨_, rfl⟩
                        have hy19 : y121.length = ((ji12) : Int).toNat - (2 : Int).toNat := (by rw [Ny121.out, List.length_drop, List.length_take] <;> omega)
                        rw [show ((l0).take ((ji12) : Int).toNat).drop (2 : Int).toNat = y121 from Ny121.out.symm] at hr19
                        replace hr19 : Kd.C (Kd.int .u8) _ A19 y121.length y121 := (by rw [hA19]; exact hr19)
                        rw [← hy19, ← hA19, ← hc19] at hcut19
                        have HR124 := Aside0.mk hr19
                        have HC124 := Aside0.mk (show y121.length ≤ c19 from by rw [hy19, hc19]; exact Nat.sub_le_sub_right (Nat.le_trans (by omega) hroom19) _)
                        clear hr19 hC19 hroom19 hi019 hsz19 hc19
                        have KY19 := Aside0.mk hy19
                        have KA19 := Aside0.mk hA19
                        clear hy19 hA19
                        replace q19 := eq_true q19
                        try go_wp2_with (first | ((with_reducible refine gate_callee (f := 16) rfl ?_); refine goesL_ (some 33) rfl rfl Try.func16 (by kernel_rfl) rfl #[.slice A19 y121.length c19] rfl (by (try simp only [List.map_toArray, List.map_cons, List.map_nil]); first | done | rfl | (simp only [List.length_drop, List.length_take]; rfl)) ?_; (with_reducible refine (bytes_Clone.calls _ _ y121 t125 _ ?side1 ?side2 A11.out).mono ?_); (case side1 => repeat (first | exact (Kd.C_below HR124.out HB.out) | (with_reducible refine Kd.C_alloc ?_ _) | (with_reducible refine Kd.C_drewN ?_ _) | (with_reducible refine Kd.C_drew ?_))); (case side2 => exact HC124.out); rintro e w20 ⟨v126, rfl, ho0, hb⟩; refine ⟨_, rfl, ?_⟩; have n0_ := Aside0.mk (Kd.R_lower ho0 (below_size (by repeat (first | (with_reducible first | exact HB.out | apply below_alloc | apply pw_below_drewN | apply below_drew1) | exact HB.out)))); have n1_ := Aside0.mk (below_step (by repeat (first | (with_reducible first | exact HB.out | apply below_alloc | apply pw_below_drewN | apply below_drew1) | exact HB.out)) hb); clear HB; have HO127 := n0_; have HB := n1_; clear n0_ n1_; (try clear hb); (try clear hb2); (try clear hk); (try clear hi); (try clear ho0)))
                        have n0_ := Aside0.mk (Kd.R_drew HO127.out)
                        have n1_ := Aside0.mk (below_drew1 HB.out)
                        clear HO127
                        clear HB
                        have HO127 := n0_
                        have HB := n1_
                        clear n0_ n1_
                        obtain ⟨i022, hi022, _, hsz22, _⟩ := info_parts info5
                        obtain ⟨A22, hcut22, hA22, hC22⟩ := print_mid_of (P := Try.prog) (Value.int .u8) 0 22 5 .i64 .i64 Try.underlying22 hi022 hsz22 (some ad119) c0 l0 (ji12) (wrap64 ((ji12) + 4)) (of_decide_eq_true (by first | (with_reducible assumption) | assumption)) (by first | omega | exact of_decide_eq_true (by first | (with_reducible assumption) | assumption)) (of_decide_eq_true (by first | (with_reducible assumption) | assumption)) HC0.out
                        have HR128 := Aside0.mk (Kd.C_of_reads (h1 := fun _ => rfl) (hA22 _ (Kd.reads_of_C HR0.out)))
                        have HC128 := Aside0.mk hC22
                        clear hA22 hC22 hi022 hsz22
                        obtain ⟨Ao23, co23, eo23⟩ := Kd.R_slice HO127.out
                        (first | subst eo23 | (injection eo23 with f1_ f2_ f3_; have f4_ := f1_.symm; have f5_ := f3_.symm; clear f1_ f2_ f3_; subst f4_; subst f5_))
                        refine start_ (n := 15) (S := fun w' => True) (ds := []) #[false, false, false, false, false, false, false, false, false, false, false, false, false, false, false] (by kernel_rfl) rfl rfl trivial (fun hHeld => ?_); refine with_tabW frame_first.tab7 frame_first.bits7 (fun HT_ HW_ => ?_)
                        generalize w20.drew = w21 at HO127 HB HR128 hHeld ⊢
                        refine pure_ (i := 0) (N := some 34) (v := ?_) (a' := ?_) #[true, false, false, false, false, false, false, false, false, false, false, false, false, false, false] rfl rfl (any_of HT_.out (by kernel_rfl)) (fun _ _ _ h => h) (Or.inl ⟨by rfl, ?_⟩) ?_ ?_
                        rotate_left
                        · intro w'
                          go_simp
                          with_reducible rfl
                        rotate_left
                        · simp only [Act.put, List.setIfInBounds_toArray, List.set_cons_zero, List.set_cons_succ, i64_w, i32_w]
                          rfl
                        refine pure_ (i := 1) (N := some 35) (v := ?_) (a' := ?_) #[true, true, false, false, false, false, false, false, false, false, false, false, false, false, false] rfl rfl (any_of HT_.out (by kernel_rfl)) (fun _ _ _ h => h) (Or.inl ⟨by rfl, ?_⟩) ?_ ?_
                        rotate_left
                        · intro w'
                          go_simp
                          with_reducible rfl
                        rotate_left
                        · simp only [Act.put, List.setIfInBounds_toArray, List.set_cons_zero, List.set_cons_succ, i64_w, i32_w]
                          rfl
                        refine pure_ (i := 2) (N := some 36) (v := ?_) (a' := ?_) #[true, true, true, false, false, false, false, false, false, false, false, false, false, false, false] rfl rfl (any_of HT_.out (by kernel_rfl)) (fun _ _ _ h => h) (Or.inl ⟨by rfl, ?_⟩) ?_ ?_
                        rotate_left
                        · intro w'
                          go_simp
                          with_reducible rfl
                        rotate_left
                        · simp only [Act.put, List.setIfInBounds_toArray, List.set_cons_zero, List.set_cons_succ, i64_w, i32_w]
                          rfl
                        refine pure_ (i := 3) (N := some 37) (v := ?_) (a' := ?_) #[true, true, true, true, false, false, false, false, false, false, false, false, false, false, false] rfl rfl (any_of HT_.out (by kernel_rfl)) (fun _ _ _ h => h) (Or.inl ⟨by rfl, ?_⟩) ?_ ?_
                        rotate_left
                        · intro w'
                          go_simp
                          with_reducible rfl
                        rotate_left
                        · simp only [Act.put, List.setIfInBounds_toArray, List.set_cons_zero, List.set_cons_succ, i64_w, i32_w]
                          rfl
                        refine pure_ (i := 4) (N := some 38) (v := ?_) (a' := ?_) #[true, true, true, true, true, false, false, false, false, false, false, false, false, false, false] rfl rfl (any_of HT_.out (by kernel_rfl)) (fun _ _ _ h => h) (Or.inl ⟨by rfl, ?_⟩) ?_ ?_
                        rotate_left
                        · intro w'
                          go_simp
                          with_reducible rfl
                        rotate_left
                        · simp only [Act.put, List.setIfInBounds_toArray, List.set_cons_zero, List.set_cons_succ, i64_w, i32_w]
                          rfl
                        refine pure_ (i := 5) (N := some 39) (v := ?_) (a' := ?_) #[true, true, true, true, true, true, false, false, false, false, false, false, false, false, false] rfl rfl (any_of HT_.out (by kernel_rfl)) (fun _ _ _ h => h) (Or.inl ⟨by rfl, ?_⟩) ?_ ?_
                        rotate_left
                        · intro w'
                          go_simp
                          with_reducible rfl
                        rotate_left
                        · simp only [Act.put, List.setIfInBounds_toArray, List.set_cons_zero, List.set_cons_succ, i64_w, i32_w]
                          rfl
                        refine pure_ (i := 6) (N := some 40) (v := ?_) (a' := ?_) #[true, true, true, true, true, true, true, false, false, false, false, false, false, false, false] rfl rfl (any_of HT_.out (by kernel_rfl)) (fun _ _ _ h => h) (Or.inl ⟨by rfl, ?_⟩) ?_ ?_
                        rotate_left
                        · intro w'
                          go_simp
                          with_reducible rfl
                        rotate_left
                        · simp only [Act.put, List.setIfInBounds_toArray, List.set_cons_zero, List.set_cons_succ, i64_w, i32_w]
                          rfl
                        refine pure_ (i := 7) (N := some 41) (v := ?_) (a' := ?_) #[true, true, true, true, true, true, true, true, false, false, false, false, false, false, false] rfl rfl (any_of HT_.out (by kernel_rfl)) (fun _ _ _ h => h) (Or.inl ⟨by rfl, ?_⟩) ?_ ?_
                        rotate_left
                        · intro w'
                          go_simp
                          with_reducible rfl
                        rotate_left
                        · simp only [Act.put, List.setIfInBounds_toArray, List.set_cons_zero, List.set_cons_succ, i64_w, i32_w]
                          rfl
                        refine pure_ (i := 8) (N := some 42) (v := ?_) (a' := ?_) #[true, true, true, true, true, true, true, true, true, false, false, false, false, false, false] rfl rfl (any_of HT_.out (by kernel_rfl)) (fun _ _ _ h => h) (Or.inl ⟨by rfl, ?_⟩) ?_ ?_
                        rotate_left
                        · intro w'
                          go_simp
                          with_reducible rfl
                        rotate_left
                        · simp only [Act.put, List.setIfInBounds_toArray, List.set_cons_zero, List.set_cons_succ, i64_w, i32_w]
                          rfl
                        refine one_ (i := 9) (N := some 43) #[true, true, true, true, true, true, true, true, true, true, false, false, false, false, false] rfl rfl (one_of HT_.out (by kernel_rfl)) (by decide) (fun K hK => ?_)
                        refine goes_ Try.func10 (by kernel_rfl) rfl #[.slice Ao23 t125.length co23] (by rfl) rfl rfl (by (try simp only [List.map_toArray, List.map_cons, List.map_nil]); first | done | rfl | (simp only [List.length_drop, List.length_take]; rfl)) ?_
                        with_reducible refine (frame_Sum.calls kj4 _ _ t125 t129 _ ?side1 ?side2 A16.out).mono ?_
                        (case side1 => repeat (first | exact (Kd.R_reads' HO127.out).2.2 | (with_reducible refine Kd.C_alloc ?_ _) | (with_reducible refine Kd.C_drewN ?_ _) | (with_reducible refine Kd.C_drew ?_)))
                        (case side2 => exact (Kd.R_reads' HO127.out).2.1)
                        rintro e w' ⟨rfl, ⟨nd, rfl⟩⟩
                        refine ⟨_, rfl, ?_⟩
                        refine hK.out _ _ trivial (fun hHeld => ?_)
                        clear hK K
                        refine norm_ (a' := ?_) ?_ ?_
                        rotate_left
                        · show Act.put _ (some 43) _ = _
                          simp only [Act.put, List.setIfInBounds_toArray, List.set_cons_zero, List.set_cons_succ, i64_w, i32_w]
                          rfl
                        refine pure_ (i := 10) (N := some 44) (v := ?_) (a' := ?_) #[true, true, true, true, true, true, true, true, true, true, true, false, false, false, false] rfl rfl (any_of HT_.out (by kernel_rfl)) (fun _ _ _ h => h) (Or.inl ⟨by rfl, ?_⟩) ?_ ?_
                        rotate_left
                        · intro w'
                          go_simp
                          with_reducible rfl
                        rotate_left
                        · simp only [Act.put, List.setIfInBounds_toArray, List.set_cons_zero, List.set_cons_succ, i64_w, i32_w]
                          rfl
                        refine one_ (i := 11) (N := some 45) #[true, true, true, true, true, true, true, true, true, true, true, true, false, false, false] rfl rfl (one_of HT_.out (by kernel_rfl)) (by decide) (fun K hK => ?_)
                        refine goes_ Try.func12 (by kernel_rfl) rfl #[.int .u64 (IntKind.u64.wrap (t129)), .int .i64 4] (by rfl) rfl rfl (by (try simp only [List.map_toArray, List.map_cons, List.map_nil]); first | done | rfl | (simp only [List.length_drop, List.length_take]; rfl)) ?_
                        with_reducible refine (frame_low.calls kj4 (IntKind.u64.wrap (t129)) 4 t130 _ A17.out).mono ?_
                        rintro e w24 ⟨v131, rfl, ho0, hb⟩
                        refine ⟨_, rfl, ?_⟩
                        have n0_ := Aside0.mk (Kd.R_elder' (by (with_reducible repeat (first | apply Kd.R_alloc | apply Kd.R_drewN | apply Kd.R_drew)); exact HO127.out) (Kd.R_base ho0) hb)
                        have n1_ := Aside0.mk (Kd.R_lower (Kd.R_new' ho0 (Kd.R_lt (by (with_reducible repeat (first | apply Kd.R_alloc | apply Kd.R_drewN | apply Kd.R_drew)); exact HO127.out))) (below_size (by repeat (first | (with_reducible first | exact HB.out | apply below_alloc | apply pw_below_drewN | apply below_drew1) | exact HB.out))))
                        have n2_ := Aside0.mk (below_step (by repeat (first | (with_reducible first | exact HB.out | apply below_alloc | apply pw_below_drewN | apply below_drew1) | exact HB.out)) hb)
                        clear HO127
                        clear HB
                        have HO127 := n0_
                        have HO132 := n1_
                        have HB := n2_
                        clear n0_ n1_ n2_
                        (try clear hb)
                        (try clear hb2)
                        (try clear hk)
                        (try clear hi)
                        (try clear ho0)
                        obtain ⟨Ao25, co25, eo25⟩ := Kd.R_slice HO132.out
                        (first | subst eo25 | (injection eo25 with f1_ f2_ f3_; have f4_ := f1_.symm; have f5_ := f3_.symm; clear f1_ f2_ f3_; subst f4_; subst f5_))
                        refine hK.out _ _ trivial (fun hHeld => ?_)
                        clear hK K
                        refine norm_ (a' := ?_) ?_ ?_
                        rotate_left
                        · show Act.put _ (some 45) _ = _
                          simp only [Act.put, List.setIfInBounds_toArray, List.set_cons_zero, List.set_cons_succ, i64_w, i32_w]
                          rfl
                        refine one_ (i := 12) (N := some 46) #[true, true, true, true, true, true, true, true, true, true, true, true, true, false, false] rfl rfl (one_of HT_.out (by kernel_rfl)) (by decide) (fun K hK => ?_)
                        refine goes_ Try.func17 (by kernel_rfl) rfl #[.slice A22 ((l0.take ((wrap64 ((ji12) + 4)) : Int).toNat).drop ((ji12) : Int).toNat).length (c0 - (ji12).toNat), .slice Ao25 t130.length co25] (by rfl) rfl rfl (by (try simp only [List.map_toArray, List.map_cons, List.map_nil]); first | done | (rw [show ((l0.take ((wrap64 ((ji12) + 4)) : Int).toNat).drop ((ji12) : Int).toNat).length = ((wrap64 ((ji12) + 4)).toNat - (ji12).toNat) from (by rw [List.length_drop, List.length_take]; have h_ : ((wrap64 ((ji12) + 4)) : Int) ≤ (l0.length : Int) := of_decide_eq_true (by first | (with_reducible assumption) | assumption); omega)] <;> rfl) | (simp only [hji12]; rfl) | rfl | (simp only [List.length_drop, List.length_take]; rfl)) ?_
                        with_reducible refine (bytes_Equal.calls _ _ ((l0.take ((wrap64 ((ji12) + 4)) : Int).toNat).drop ((ji12) : Int).toNat) _ _ t130 t133 _ ?side1 ?side2 ?side3 ?side4 A18.out).mono ?_
                        (case side1 => repeat (first | exact (Kd.C_below HR128.out HB.out) | (with_reducible refine Kd.C_alloc ?_ _) | (with_reducible refine Kd.C_drewN ?_ _) | (with_reducible refine Kd.C_drew ?_)))
                        (case side2 => exact HC128.out)
                        (case side3 => repeat (first | exact (Kd.R_reads' HO132.out).2.2 | (with_reducible refine Kd.C_alloc ?_ _) | (with_reducible refine Kd.C_drewN ?_ _) | (with_reducible refine Kd.C_drew ?_)))
                        (case side4 => exact (Kd.R_reads' HO132.out).2.1)
                        rintro e w' ⟨rfl, ⟨nd, rfl⟩⟩
                        refine ⟨_, rfl, ?_⟩
                        refine hK.out _ _ trivial (fun hHeld => ?_)
                        clear hK K
                        refine norm_ (a' := ?_) ?_ ?_
                        rotate_left
                        · show Act.put _ (some 46) _ = _
                          simp only [Act.put, List.setIfInBounds_toArray, List.set_cons_zero, List.set_cons_succ, i64_w, i32_w]
                          rfl
                        refine pure_ (i := 13) (N := some 2) (v := ?_) (a' := ?_) #[true, true, true, true, true, true, true, true, true, true, true, true, true, true, false] rfl rfl (any_of HT_.out (by kernel_rfl)) (fun _ _ _ h => h) (Or.inl ⟨by rfl, ?_⟩) ?_ ?_
                        rotate_left
                        · intro w'
                          go_simp
                          with_reducible rfl
                        rotate_left
                        · simp only [Act.put, List.setIfInBounds_toArray, List.set_cons_zero, List.set_cons_succ, i64_w, i32_w]
                          rfl
                        refine pure_ (i := 14) (N := some 3) (v := ?_) (a' := ?_) #[true, true, true, true, true, true, true, true, true, true, true, true, true, true, true] rfl rfl (any_of HT_.out (by kernel_rfl)) (fun _ _ _ h => h) (Or.inl ⟨by rfl, ?_⟩) ?_ ?_
                        rotate_left
                        · intro w'
                          go_simp
                          with_reducible rfl
                        rotate_left
                        · simp only [Act.put, List.setIfInBounds_toArray, List.set_cons_zero, List.set_cons_succ, i64_w, i32_w]
                          rfl
                        refine done_ (done_of HT_.out (by kernel_rfl)) ?_
                        try go_wp2
                        go_ret2
                        exact ⟨_, by first | rfl | (simp [errW_none, errW_some] <;> rfl) | (simp only [← hji12]; first | rfl | (simp [errW_none, errW_some] <;> rfl)) | (simp [*, errW_none, errW_some] <;> rfl), by (with_reducible repeat (first | apply Kd.R_alloc | apply Kd.R_drewN | apply Kd.R_drew)); exact Kd.R_mono HO127.out (fun _ hk => trivial), by repeat (first | (with_reducible first | exact HB.out | apply below_alloc | apply pw_below_drewN | apply below_drew1) | exact HB.out)⟩
                      · rw [if_neg c15] at H
                        exact absurd H (by simp)
                    · rw [if_neg c14] at H
                      exact absurd H (by simp)
                  · rw [if_neg c13] at H
                    exact absurd H (by simp)
                · rw [if_neg c10] at H
                  exact absurd H (by simp)
              · rw [if_neg c9] at H
                exact absurd H (by simp)
      · rw [if_neg c4] at H
        exact absurd H (by simp)
    · rw [if_neg c3] at H
      exact absurd H (by simp)

/-! ### frame_Scan: function 7 -/
theorem wp_scope_ghost {P : Program} {a : Act} {w : World} {Q : Exit → Act → World → Prop} {c R : Code} (l : Nat) (J : Nat → Act → World → Prop) (hf : findLabel c l = some (.seq .skip R))
    (first : (∀ n a w, J n a w → R.wp P (Exit.jump l (fun a' w' => ∃ m, J m a' w') Q) a w) → c.wp P (Exit.jump l (fun a' w' => ∃ m, J m a' w') Q) a w)
    (pass : ∀ n a w, J n a w → R.wp P (Exit.jump l (fun a' w' => ∃ m, m < n ∧ J m a' w') Q) a w) : (Code.scope c).wp P Q a w := by
  have first' := first fun n a w h => Code.wp_mono (fun e a w q => by
    cases e with
    | goto l' => exact ⟨q.1, q.2.imp fun m hm => hm.2⟩
    | _ => exact q) (pass n a w h)
  have pass' : ∀ n a w, J n a w → (Code.seq .skip R).wp P (Exit.jump l (fun a' w' => ∃ m, m < n ∧ J m a' w') Q) a w := fun n a w h => wp_seq (wp_skip (pass n a w h))
  intro b k cs
  have hg : gotoIn l (.inScope c :: k) = some (.code (.seq .skip R) :: .inScope c :: k) := by simp [gotoIn, hf]
  have key : ∀ n a w, J n a w → ∃ e a' w', Q e a' w' ∧ Arrives P (lone (b.at a (.code (.seq .skip R) :: .inScope c :: k)) cs w) b k cs e a' w' := by
    intro n
    induction n using Nat.strongRecOn with
    | _ n ih =>
      intro a w hJ
      obtain ⟨e, a₁, w₁, hq, harr⟩ := pass' n a w hJ b (.inScope c :: k) cs
      cases e with
      | normal => exact ⟨.normal, a₁, w₁, hq, Steps.trans harr (.one step_inScope)⟩
      | exit id => exact ⟨.exit id, a₁, w₁, hq, fun k' hk => harr k' (by simp [exitTo, hk])⟩
      | goto l' =>
        obtain ⟨rfl, m, hlt, hJ'⟩ := hq
        obtain ⟨e₂, a₂, w₂, hq₂, harr₂⟩ := ih m hlt a₁ w₁ hJ'
        exact ⟨e₂, a₂, w₂, hq₂, .of_steps (harr _ hg) harr₂⟩
      | ret => exact ⟨_, a₁, w₁, hq, harr⟩
      | panic ch => exact ⟨_, a₁, w₁, hq, harr⟩
      | outgrown => exact ⟨_, a₁, w₁, hq, harr⟩
  obtain ⟨e, a₁, w₁, hq, harr⟩ := first' b (.inScope c :: k) cs
  cases e with
  | normal => exact ⟨.normal, a₁, w₁, hq, .head step_scope (Steps.trans harr (.one step_inScope))⟩
  | exit id => exact ⟨.exit id, a₁, w₁, hq, fun k' hk => .head step_scope (harr k' (by simp [exitTo, hk]))⟩
  | goto l' =>
    obtain ⟨rfl, m, hJ'⟩ := hq
    obtain ⟨e₂, a₂, w₂, hq₂, harr₂⟩ := key m a₁ w₁ hJ'
    exact ⟨e₂, a₂, w₂, hq₂, .of_steps (.head step_scope (harr _ hg)) harr₂⟩
  | ret => exact ⟨_, a₁, w₁, hq, .of_steps (.one step_scope) harr⟩
  | panic ch => exact ⟨_, a₁, w₁, hq, .of_steps (.one step_scope) harr⟩
  | outgrown => exact ⟨_, a₁, w₁, hq, .of_steps (.one step_scope) harr⟩
def frame_Scan.l0 : Nat → List Int → List (List Int) → Int → Option ((List (List Int)) × Int)
  | 0, _, _, _ => none
  | k + 1, x0, x4, x5 => if 0 ≤ x5 then (if x5 ≤ (x0.length : Int) then ((frame_first.f k (x0.drop (x5 : Int).toNat)).bind fun bt138 => (if bt138.2 = true then (if x4.length < 5864062014805 then (frame_Scan.l0 k x0 (x4 ++ [bt138.1]) (wrap64 (x5 + (wrap64 ((wrap64 (2 + (bt138.1.length : Int))) + 4))))) else (none)) else (some (x4, x5)))) else (none)) else (none)
def frame_Scan.f (k : Nat) (l0 : List Int) : Option ((List (List Int)) × Int) := frame_Scan.l0 k l0 ([] : List (List Int)) 0
theorem frame_Scan.mono_l : ∀ k, (∀ y0 y1 y2, LeO (frame_Scan.l0 k y0 y1 y2) (frame_Scan.l0 (k + 1) y0 y1 y2))
  | 0 => fun _ _ _ r h => by simp [frame_Scan.l0] at h
  | k + 1 => by
    have ih0 := frame_Scan.mono_l k
    · intro y0 y1 y2
      unfold frame_Scan.l0
      repeat' first
      | (with_reducible exact ih0 _ _ _)
      | (with_reducible exact frame_first.mono _ _)
      | (with_reducible exact LeO.refl _)
      | (with_reducible exact LeO.none _)
      | (with_reducible refine LeO.ite ?_ ?_)
      | (with_reducible refine LeO.bind ?_ (fun _ => ?_))
      | exact ih0 _ _ _
      | exact frame_first.mono _ _
      | exact LeO.none _
      | refine LeO.ite ?_ ?_
      | refine LeO.bind ?_ (fun _ => ?_)
theorem frame_Scan.mono : ∀ a0 k, LeO (frame_Scan.f k a0) (frame_Scan.f (k + 1) a0) := by
  intro a0 k
  have ih0 := frame_Scan.mono_l k
  unfold frame_Scan.f
  repeat' first
      | (with_reducible exact ih0 _ _ _)
      | (with_reducible exact frame_first.mono _ _)
      | (with_reducible exact LeO.refl _)
      | (with_reducible exact LeO.none _)
      | (with_reducible refine LeO.ite ?_ ?_)
      | (with_reducible refine LeO.bind ?_ (fun _ => ?_))
      | exact ih0 _ _ _
      | exact frame_first.mono _ _
      | exact LeO.none _
      | refine LeO.ite ?_ ?_
      | refine LeO.bind ?_ (fun _ => ?_)
set_option maxHeartbeats 8000000 in
set_option maxRecDepth 100000 in
theorem frame_Scan.calls (k : Nat) (A0 : Option Addr) (c0 : Nat) (l0 : List Int) (r1 : List (List Int)) (r2 : Int) (w : World) (hr0 : Kd.C (Kd.int .u8) w A0 l0.length l0) (hc0 : l0.length ≤ c0) (h : frame_Scan.f k l0 = some (r1, r2)) :
    Calls Try.prog 7 #[.slice A0 l0.length c0] w fun e w' => ∃ v0_ : Value, e = .returned (.tuple #[v0_, .int .i64 r2]) ∧ Kd.S (Kd.slice 5 (Kd.int .u8)) 22 w' w.heap.size (fun _ => True) v0_ r1 ∧ Below w.heap.size w w' := by
  have HR0 := Aside0.mk hr0
  have HC0 := Aside0.mk hc0
  clear hr0 hc0
  have HB := Aside0.mk (Below.refl w.heap.size w)
  have H : (frame_Scan.l0 k l0 ([] : List (List Int)) 0) = some (r1, r2) := h
  clear h
  have H' := Aside0.mk H
  clear H
  go_enter Try.func7, Try.ntmps7
  go_wp2
  refine wp_scope_ghost 0 (fun kq a' w' => ∃ v4 v5 u6 u7 u8 u9 u10 u11 u12 u13 u14 u15 u16 u17 u18 u19 u20 u21 u22 u23 u24 u25 u26 u27 : Value, a' = { tmps := #[.slice A0 l0.length c0, undef, .slice none 0 0, .int .i64 0, v4, v5, u6, u7, u8, u9, u10, u11, u12, u13, u14, u15, u16, u17, u18, u19, u20, u21, u22, u23, u24, u25, u26, u27], defers := [] } ∧ (∃ (x4_1 : List (List Int)) (x5_1 : Int), v5 = .int .i64 x5_1 ∧ Aside0 (frame_Scan.l0 kq l0 x4_1 x5_1 = some (r1, r2)) ∧ Aside0 (kq ≤ k) ∧ Aside0 (Kd.S (Kd.slice 5 (Kd.int .u8)) 22 w' w.heap.size (fun _ => True) v4 x4_1) ∧ Aside0 (Below w.heap.size w w'))) rfl ?_ ?_
  · intro hpass
    go_wp2
    go_step3
    simp only [Exit.then]
    apply_assumption
    refine hpass k _ _ ⟨_, _, _, _, _, _, _, _, _, _, _, _, _, _, _, _, _, _, _, _, _, _, _, _, rfl, ?_⟩
    exact ⟨(([] : List (List Int))), (0), (by first | rfl | (simp; done) | (simp [*]; done)), H', ⟨Nat.le_refl _⟩, ⟨by first | exact Kd.S_nil _ _ _ _ _ | exact Kd.N_nil _ _ _ _ _ | exact Kd.V_nil _ _ _ _ _ | exact Kd.Q_nil _ _ _ _ _ | exact Kd.R_nil _ _ _ _ _⟩, ⟨by repeat (first | (with_reducible first | exact HB.out | apply below_alloc | apply pw_below_drewN | apply below_drew1) | exact HB.out)⟩⟩
  · intro gk a' wr hJ
    clear H'
    obtain ⟨u4, u5, u6, u7, u8, u9, u10, u11, u12, u13, u14, u15, u16, u17, u18, u19, u20, u21, u22, u23, u24, u25, u26, u27, rfl, hrel⟩ := hJ
    obtain ⟨x4_1, x5_1, rfl, HA, HK1, HO_4, HB⟩ := hrel
    cases gk with
    | zero => exact absurd HA.out (by simp [frame_Scan.l0])
    | succ k1 =>
      have H := HA.out
      clear HA
      simp only [frame_Scan.l0] at H
      by_cases c2 : 0 ≤ x5_1
      · rw [if_pos c2] at H
        have c2b0 := eq_true c2
        have c2b1 : decide (0 ≤ x5_1) = true := decide_eq_true c2
        clear c2
        by_cases c3 : x5_1 ≤ (l0.length : Int)
        · rw [if_pos c3] at H
          have c3b0 := eq_true c3
          have c3b1 : decide (x5_1 ≤ (l0.length : Int)) = true := decide_eq_true c3
          clear c3
          obtain ⟨y134, hy134⟩ : ∃ y_ : List Int, y_ = (l0.drop (x5_1 : Int).toNat) := ⟨_, rfl⟩
          replace H : ((frame_first.f k1 y134).bind fun bt138 => (if bt138.2 = true then (if x4_1.length < 5864062014805 then (frame_Scan.l0 k1 l0 (x4_1 ++ [bt138.1]) (wrap64 (x5_1 + (wrap64 ((wrap64 (2 + (bt138.1.length : Int))) + 4))))) else (none)) else (some (x4_1, x5_1)))) = some (r1, r2) := by first | (rw [hy134]; with_reducible exact H) | (have H2_ := (Option.bind_some _ _).symm.trans H; rw [hy134]; with_reducible exact H2_) | (have H2_ := (Option.bind_some _ _).symm.trans H; with_reducible exact H2_) | with_reducible exact H | (rw [hy134]; exact H) | exact H
          have Ny134 := Aside0.mk hy134
          clear hy134
          replace H := Option.bind_eq_some_iff.mp H
          obtain ⟨⟨t138, t139⟩, A40, H⟩ := H
          replace H : (if t139 = true then (if x4_1.length < 5864062014805 then (frame_Scan.l0 k1 l0 (x4_1 ++ [t138]) (wrap64 (x5_1 + (wrap64 ((wrap64 (2 + (t138.length : Int))) + 4))))) else (none)) else (some (x4_1, x5_1))) = some (r1, r2) := H
          have A4 := Aside0.mk A40
          clear A40
          by_cases c5 : t139 = true
          · subst c5
            have H1 : (if x4_1.length < 5864062014805 then (frame_Scan.l0 k1 l0 (x4_1 ++ [t138]) (wrap64 (x5_1 + (wrap64 ((wrap64 (2 + (t138.length : Int))) + 4))))) else (none)) = some (r1, r2) := by rw [if_pos rfl] at H; exact H
            clear H
            have H := H1
            clear H1
            by_cases c6 : x4_1.length < 5864062014805
            · rw [if_pos c6] at H
              have LMc6 := Aside0.mk c6
              clear c6
              obtain ⟨y142, hy142⟩ : ∃ y_ : List (List Int), y_ = (x4_1 ++ [t138]) := ⟨_, rfl⟩
              replace H : (frame_Scan.l0 k1 l0 y142 (wrap64 (x5_1 + (wrap64 ((wrap64 (2 + (t138.length : Int))) + 4))))) = some (r1, r2) := by first | (rw [hy142]; with_reducible exact H) | (have H2_ := (Option.bind_some _ _).symm.trans H; rw [hy142]; with_reducible exact H2_) | (have H2_ := (Option.bind_some _ _).symm.trans H; with_reducible exact H2_) | with_reducible exact H | (rw [hy142]; exact H) | exact H
              have Ny142 := Aside0.mk hy142
              clear hy142
              have H' := Aside0.mk H
              clear H
              have q7 : (x5_1 : Int) ≤ ((l0.length : Int) : Int) := of_decide_eq_true (by first | (with_reducible assumption) | assumption)
              obtain ⟨i07, hi07, _, hsz7, _⟩ := info_parts info5
              have hroom7 : l0.length ≤ c0 := HC0.out
              have hC7 : Kd.C (Kd.int .u8) _ A0 l0.length l0 := HR0.out
              have q07 : (0 : Int) ≤ (x5_1 : Int) := of_decide_eq_true (by first | (with_reducible assumption) | assumption)
              have hcut7 := cut_from (P := Try.prog) 22 5 .i64 Try.underlying22 hi07 1 hsz7 A0 l0.length c0 x5_1 q07 q7
              have hr7 := Kd.C_drop (m := (x5_1 : Int).toNat) (c := c0) hC7 (by omega) hroom7
              obtain ⟨A7, hA7⟩ : ∃ A1, A1 = (if c0 = (x5_1 : Int).toNat then A0 else (A0 : Option Addr).map (·.add ((x5_1 : Int).toNat * 1))) := ⟨_, rfl⟩
              obtain ⟨c7, hc7⟩ : ∃ c1, c1 = c0 - (x5_1 : Int).toNat := ⟨_, rfl⟩
              have hy7 : y134.length = l0.length - (x5_1 : Int).toNat := (by rw [Ny134.out, List.length_drop] <;> omega)
              rw [show (l0).drop (x5_1 : Int).toNat = y134 from Ny134.out.symm] at hr7
              replace hr7 : Kd.C (Kd.int .u8) _ A7 y134.length y134 := (by rw [hA7]; exact hr7)
              rw [← hy7, ← hA7, ← hc7] at hcut7
              have HR137 := Aside0.mk hr7
              have HC137 := Aside0.mk (show y134.length ≤ c7 from by rw [hy7, hc7]; exact Nat.sub_le_sub_right hroom7 _)
              clear hr7 hC7 hroom7 hi07 hsz7 hc7
              have KY7 := Aside0.mk hy7
              have KA7 := Aside0.mk hA7
              clear hy7 hA7
              replace q7 := eq_true q7
              go_wp2_with (first | ((with_reducible refine gate_callee (f := 13) rfl ?_); refine goesL_ (some 12) rfl rfl Try.func13 (by kernel_rfl) rfl #[.slice A7 y134.length c7] rfl (by (try simp only [List.map_toArray, List.map_cons, List.map_nil]); first | done | rfl | (simp only [List.length_drop, List.length_take]; rfl)) ?_; (with_reducible refine (frame_first.calls k1 _ _ y134 t138 true _ ?side1 ?side2 A4.out).mono ?_); (case side1 => repeat (first | exact (Kd.C_below HR137.out HB.out) | (with_reducible refine Kd.C_alloc ?_ _) | (with_reducible refine Kd.C_drewN ?_ _) | (with_reducible refine Kd.C_drew ?_))); (case side2 => exact HC137.out); rintro e w8 ⟨v140, rfl, ho0, hb⟩; refine ⟨_, rfl, ?_⟩; have n0_ := Aside0.mk (Kd.S_elder' (by (with_reducible repeat (first | apply Kd.S_alloc | apply Kd.S_drewN | apply Kd.S_drew)); exact HO_4.out) (Kd.R_base ho0) hb); have n1_ := Aside0.mk (Kd.R_lower ho0 (below_size (by repeat (first | (with_reducible first | exact HB.out | apply below_alloc | apply pw_below_drewN | apply below_drew1) | exact HB.out)))); have n2_ := Aside0.mk (below_step (by repeat (first | (with_reducible first | exact HB.out | apply below_alloc | apply pw_below_drewN | apply below_drew1) | exact HB.out)) hb); clear HO_4; clear HB; have HO_4 := n0_; have HO141 := n1_; have HB := n2_; clear n0_ n1_ n2_; (try clear hb); (try clear hb2); (try clear hk); (try clear hi); (try clear ho0); obtain ⟨Ao10, co10, eo10⟩ := Kd.R_slice HO141.out; subst eo10) | ((with_reducible refine gate_builtin (b := .append) (xs := #[.tmp 16, .tmp 18]) rfl ?_); at_builtin; refine Kd.S_append (Kd.slice 5 (Kd.int .u8)) (w0 := w) w.heap.size rfl (.tmp 16) (.tmp 18) 27 22 (.slice none 0 0) 24 rfl Try.underlying27 info22 rfl (by decide) (by omega) u4 x4_1 t138 [.slice Ao10 t138.length co10] (fun _ => True) (fun k_ => some k_ = (.slice Ao10 t138.length co10 : Value).ownBlock) rfl rfl ?aP (fun k_ hk_ => ((Kd.R_mono (ok' := fun k_ => ((fun _ => True)) k_ ∧ some k_ ≠ (u4 : Value).ownBlock) (Kd.R_apart' (HO141.out) (Kd.S_typed HO_4.out) (by decide)) (fun k_ hk => ⟨trivial, hk.2⟩))).1 k_ hk_.symm) ?aF ?aO ?aB ?aS ?aL ?_; (case aP => exact Kd.M_row (Kd.R_mono (Kd.R_tight rfl (Kd.R_mono (ok' := fun k_ => ((fun _ => True)) k_ ∧ some k_ ≠ (u4 : Value).ownBlock) (Kd.R_apart' (HO141.out) (Kd.S_typed HO_4.out) (by decide)) (fun k_ hk => ⟨trivial, hk.2⟩))) (fun _ h_ => h_))); (case aB => exact (by repeat (first | (with_reducible first | exact HB.out | apply below_alloc | apply pw_below_drewN | apply below_drew1) | exact HB.out))); (case aF => exact (fun _ _ => trivial)); (case aO => exact (by (with_reducible repeat (first | apply Kd.S_alloc | apply Kd.S_drewN | apply Kd.S_drew)); exact Kd.S_mono HO_4.out (fun k_ hk => ⟨trivial, fun e_ => hk.2 e_⟩))); (case aS => exact (below_size (by repeat (first | (with_reducible first | exact HB.out | apply below_alloc | apply pw_below_drewN | apply below_drew1) | exact HB.out)))); (case aL => have := LMc6.out; omega); intro v143 w9 ho hb hg hat; rw [← Ny142.out] at ho; have n0_ := Aside0.mk (hb); have n1_ := Aside0.mk (ho); clear HB; clear HO_4; clear HO141; have HB := n0_; have HO144 := n1_; clear n0_ n1_; clear ho hb hg hat))
              go_step3
              refine ⟨rfl, k1, Nat.lt_succ_self _, _, _, _, _, _, _, _, _, _, _, _, _, _, _, _, _, _, _, _, _, _, _, _, _, rfl, ?_⟩
              exact ⟨(y142), (wrap64 (x5_1 + (wrap64 ((wrap64 (2 + (t138.length : Int))) + 4)))), (by first | rfl | (simp; done) | (simp [*]; done)), H', ⟨by have := HK1.out; omega⟩, ⟨by (with_reducible repeat (first | apply Kd.S_alloc | apply Kd.S_drewN | apply Kd.S_drew)); exact HO144.out⟩, ⟨by repeat (first | (with_reducible first | exact HB.out | apply below_alloc | apply pw_below_drewN | apply below_drew1) | exact HB.out)⟩⟩
            · rw [if_neg c6] at H
              exact absurd H (by simp)
          · replace c5 := Bool.eq_false_iff.mpr c5
            subst c5
            have H1 : (some (x4_1, x5_1)) = some (r1, r2) := by rw [if_neg (show ¬ (false = true) by decide)] at H; exact H
            clear H
            have H := H1
            clear H1
            simp only [Option.some.injEq, Prod.mk.injEq] at H
            obtain ⟨rfl, rfl⟩ := H
            have q11 : (x5_1 : Int) ≤ ((l0.length : Int) : Int) := of_decide_eq_true (by first | (with_reducible assumption) | assumption)
            obtain ⟨i011, hi011, _, hsz11, _⟩ := info_parts info5
            have hroom11 : l0.length ≤ c0 := HC0.out
            have hC11 : Kd.C (Kd.int .u8) _ A0 l0.length l0 := HR0.out
            have q011 : (0 : Int) ≤ (x5_1 : Int) := of_decide_eq_true (by first | (with_reducible assumption) | assumption)
            have hcut11 := cut_from (P := Try.prog) 22 5 .i64 Try.underlying22 hi011 1 hsz11 A0 l0.length c0 x5_1 q011 q11
            have hr11 := Kd.C_drop (m := (x5_1 : Int).toNat) (c := c0) hC11 (by omega) hroom11
            obtain ⟨A11, hA11⟩ : ∃ A1, A1 = (if c0 = (x5_1 : Int).toNat then A0 else (A0 : Option Addr).map (·.add ((x5_1 : Int).toNat * 1))) := ⟨_, rfl⟩
            obtain ⟨c11, hc11⟩ : ∃ c1, c1 = c0 - (x5_1 : Int).toNat := ⟨_, rfl⟩
            have hy11 : y134.length = l0.length - (x5_1 : Int).toNat := (by rw [Ny134.out, List.length_drop] <;> omega)
            rw [show (l0).drop (x5_1 : Int).toNat = y134 from Ny134.out.symm] at hr11
            replace hr11 : Kd.C (Kd.int .u8) _ A11 y134.length y134 := (by rw [hA11]; exact hr11)
            rw [← hy11, ← hA11, ← hc11] at hcut11
            have HR137 := Aside0.mk hr11
            have HC137 := Aside0.mk (show y134.length ≤ c11 from by rw [hy11, hc11]; exact Nat.sub_le_sub_right hroom11 _)
            clear hr11 hC11 hroom11 hi011 hsz11 hc11
            have KY11 := Aside0.mk hy11
            have KA11 := Aside0.mk hA11
            clear hy11 hA11
            replace q11 := eq_true q11
            go_wp2_with (first | ((with_reducible refine gate_callee (f := 13) rfl ?_); refine goesL_ (some 12) rfl rfl Try.func13 (by kernel_rfl) rfl #[.slice A11 y134.length c11] rfl (by (try simp only [List.map_toArray, List.map_cons, List.map_nil]); first | done | rfl | (simp only [List.length_drop, List.length_take]; rfl)) ?_; (with_reducible refine (frame_first.calls k1 _ _ y134 t138 false _ ?side1 ?side2 A4.out).mono ?_); (case side1 => repeat (first | exact (Kd.C_below HR137.out HB.out) | (with_reducible refine Kd.C_alloc ?_ _) | (with_reducible refine Kd.C_drewN ?_ _) | (with_reducible refine Kd.C_drew ?_))); (case side2 => exact HC137.out); rintro e w12 ⟨v140, rfl, ho0, hb⟩; refine ⟨_, rfl, ?_⟩; have n0_ := Aside0.mk (Kd.S_elder' (by (with_reducible repeat (first | apply Kd.S_alloc | apply Kd.S_drewN | apply Kd.S_drew)); exact HO_4.out) (Kd.R_base ho0) hb); have n1_ := Aside0.mk (Kd.R_lower ho0 (below_size (by repeat (first | (with_reducible first | exact HB.out | apply below_alloc | apply pw_below_drewN | apply below_drew1) | exact HB.out)))); have n2_ := Aside0.mk (below_step (by repeat (first | (with_reducible first | exact HB.out | apply below_alloc | apply pw_below_drewN | apply below_drew1) | exact HB.out)) hb); clear HO_4; clear HB; have HO_4 := n0_; have HO141 := n1_; have HB := n2_; clear n0_ n1_ n2_; (try clear hb); (try clear hb2); (try clear hk); (try clear hi); (try clear ho0)))
            (try simp only [Exit.jump])
            go_ret2
            exact ⟨_, by first | rfl | (simp [errW_none, errW_some] <;> rfl) | (simp [*, errW_none, errW_some] <;> rfl), by (with_reducible repeat (first | apply Kd.S_alloc | apply Kd.S_drewN | apply Kd.S_drew)); exact Kd.S_mono HO_4.out (fun _ hk => trivial), by repeat (first | (with_reducible first | exact HB.out | apply below_alloc | apply pw_below_drewN | apply below_drew1) | exact HB.out)⟩
        · rw [if_neg c3] at H
          exact absurd H (by simp)
      · rw [if_neg c2] at H
        exact absurd H (by simp)



/-! ### lictorlaw07_alive: function 4 -/
def nine : List Int := [49, 50, 51, 52, 53, 54, 55, 56, 57]
def nineRow : List Int := [9, 0, 49, 50, 51, 52, 53, 54, 55, 56, 57, 38, 57, 244, 203]
theorem nine_reads (w : World) (fr : Nat × Nat) :
    Kd.C (Kd.int .u8) (w.alloc (.cells #[.int .u8 49, .int .u8 50, .int .u8 51, .int .u8 52, .int .u8 53, .int .u8 54, .int .u8 55, .int .u8 56, .int .u8 57] 5 fr)) (some ⟨w.heap.size, 0, none⟩) 9 nine := by
  refine Kd.C_of_reads (d := (0 : Int)) (h1 := fun _ => rfl) ⟨rfl, by omega, fun _ => ⟨_, rfl, fun j hj => ?_⟩⟩
  have ha : (⟨w.heap.size, 0, none⟩ : Addr).add j = ⟨w.heap.size, j, none⟩ := add_plain _ _
  rw [ha, World.cell?_alloc_mark]
  match j, hj with
  | 0, _ | 1, _ | 2, _ | 3, _ | 4, _ | 5, _ | 6, _ | 7, _ | 8, _ => rfl
theorem nine_wrap (w : World) (A : Option Addr) (h : Kd.C (Kd.int .u8) w A 9 nine) :
    Calls Try.prog 5 #[.slice A 9 9] w fun e w' => ∃ Ao co, e = .returned (.tuple #[.slice Ao 15 co, .int .i64 0]) ∧ 15 ≤ co ∧ Kd.C (Kd.int .u8) w' Ao 15 nineRow ∧ Below w.heap.size w w' := by
  refine (frame_Wrap.calls 200 A 9 nine nineRow 0 w h (Nat.le_refl _) (by decide +kernel)).mono ?_
  rintro e w' ⟨v, rfl, hr, hb⟩
  obtain ⟨Ao, co, rfl⟩ := Kd.R_slice hr
  exact ⟨Ao, co, rfl, (Kd.R_reads' hr).2.1, (Kd.R_reads' hr).2.2, hb⟩
theorem nine_scan (w : World) (A : Option Addr) (c : Nat) (hc : 15 ≤ c) (h : Kd.C (Kd.int .u8) w A 15 nineRow) :
    Calls Try.prog 7 #[.slice A 15 c] w fun e w' => ∃ ad co A0 c0, e = .returned (.tuple #[.slice (some ad) 1 co, .int .i64 15]) ∧ w'.cell? ad = some (.slice A0 9 c0) ∧ Kd.C (Kd.int .u8) w' A0 9 nine ∧ Below w.heap.size w w' := by
  refine (frame_Scan.calls 200 A c nineRow [nine] 15 w h hc (by decide +kernel)).mono ?_
  rintro e w' ⟨v, rfl, hr, hb⟩
  obtain ⟨Ao, co, rfl⟩ := Kd.S_slice hr
  obtain ⟨ad, A0, c0, e0, hx, _, hi⟩ := at_L1 (Kd.S_reads' hr).2.2 0 (by decide) (by decide)
  subst e0
  exact ⟨ad, co, A0, c0, rfl, by simpa [Addr.add] using (show w'.cell? (ad.add 0) = some (.slice A0 9 c0) from hx), hi, hb⟩
theorem nine_sum (w : World) (A : Option Addr) (h : Kd.C (Kd.int .u8) w A 9 nine) :
    Calls Try.prog 10 #[.slice A 9 9] w fun e w' => e = .returned (.int .u32 3421780262) ∧ Drawn0 w w' :=
  frame_Sum.calls 200 A 9 nine 3421780262 w h (Nat.le_refl _) (by decide +kernel)
theorem nine_str : (strOfNums nine).toList = [49, 50, 51, 52, 53, 54, 55, 56, 57] := by decide +kernel
def lictorlaw07_alive.f : Option Bool := some true
set_option maxHeartbeats 8000000 in
set_option maxRecDepth 100000 in
theorem lictorlaw07_alive.calls (r : Bool) (w : World) (h : lictorlaw07_alive.f = some r) :
    Calls Try.prog 4 #[] w fun e w' => e = .returned (.bool r) ∧ Below w.heap.size w w' := by
  obtain rfl := Option.some.inj h
  clear h
  have kc := fun (w : World) (C : Array Value) (n c : Nat) => Lib.run_convert_bytes_const (P := Try.prog) w 22 5 C n c Try.underlying22 Try.underlying5
  go_enter Try.func4, Try.ntmps4
  go_wp2_with (first | (go_at_call 5; refine (nine_wrap _ _ (nine_reads _ _)).mono ?_; rintro e w1 ⟨Ao, co, rfl, hco, hC1, hb1⟩; have HCO := Aside0.mk hco; have HC1 := Aside0.mk hC1; have HB1 := Aside0.mk hb1; clear hco hC1 hb1) | (go_at_call 7; refine (nine_scan _ _ _ HCO.out HC1.out).mono ?_; rintro e w2 ⟨ad, co2, A0, c0, rfl, hx, hC2, hb2⟩; have HX := Aside0.mk hx; have HC2 := Aside0.mk hC2; have HB2 := Aside0.mk hb2; clear hx hC2 hb2) | (go_at_call 10; refine (nine_sum _ _ (nine_reads _ _)).mono ?_; rintro e w3 ⟨rfl, ⟨⟨n3, rfl⟩⟩⟩; have hx2 := fun O => pw_cell_below (below_alloc (Below.refl _ _) O) HX.out; have hcv := fun O n => Kd.C_string (P := Try.prog) (A := A0) (c := c0) Try.underlying22 Try.underlying5 Try.underlying9 (Kd.C_drewN (Kd.C_alloc HC2.out O) n); have hstr := nine_str))
  go_ret
  refine ⟨rfl, ?_⟩
  exact pw_below_drewN (below_alloc (below_step (below_step (below_alloc (Below.refl _ _) _) HB1.out) HB2.out) _) _

end Go.Proofs.Ytcfakoocldahaaa.PFrameTells
