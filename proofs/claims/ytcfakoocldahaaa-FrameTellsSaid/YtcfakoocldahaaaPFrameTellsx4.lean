-- Written by a program of this session, which is the kit's print with hand-given functions (wip/tools/mkprint.py).
import Derived.Test.YtcfakoocldahaaaPFrameTellsx0
import Derived.Test.YtcfakoocldahaaaPFrameTellsx3
namespace Go.Proofs.Ytcfakoocldahaaa.PFrameTells
open Go.RowKit Go.Proofs.YtcfakoocldahaaaW.PrintWords Go.Proofs.YtcfakoocldahaaaW.PrintLast Go.Proofs.YtcfakoocldahaaaW.PrintMore
attribute [local go_sem] max2_int min2_int max_two min_two max_three min_three max_four min_four   -- for this text's walks alone
set_option linter.unusedVariables false
set_option linter.unusedSimpArgs false

/-! ### lictorref07_Wrap: function 6 -/
mutual
def lictorref07_Wrap.j0 : Nat → List Int → Int → Bool → Option (List Int × Int)
  | 0, _, _, _ => none
  | k + 1, x0, x4, x15 => if x15 = true then (some (([] : List Int), 1)) else ((some (([x4 % 256, (wrap64 (x4 / 256)) % 256] : List Int) : List Int)).bind fun y158 => (if y158.length + x0.length < 140737488355328 then ((lictorref07_Sum.f k x0).bind fun t164 => (lictorref07_Wrap.l0 k (y158 ++ x0) t164 0)) else (none)))
def lictorref07_Wrap.l0 : Nat → List Int → Int → Int → Option (List Int × Int)
  | 0, _, _, _ => none
  | k + 1, x5, x6, x7 => if x7 < 4 then (if x5.length < 140737488355328 then (lictorref07_Wrap.l0 k (x5 ++ [(Int.tmod x6 256) % 256]) ((Int.tdiv x6 256) % 4294967296) (wrap64 (x7 + 1))) else (none)) else (some (x5, 0))
end
def lictorref07_Wrap.f (k : Nat) (l0 : List Int) : Option (List Int × Int) := if (l0.length : Int) < 1 then (lictorref07_Wrap.j0 k l0 (l0.length : Int) true) else (lictorref07_Wrap.j0 k l0 (l0.length : Int) (decide ((l0.length : Int) > 65535)))
theorem lictorref07_Wrap.mono_l : ∀ k, (∀ y0 y1 y2, LeO (lictorref07_Wrap.j0 k y0 y1 y2) (lictorref07_Wrap.j0 (k + 1) y0 y1 y2)) ∧ (∀ y0 y1 y2, LeO (lictorref07_Wrap.l0 k y0 y1 y2) (lictorref07_Wrap.l0 (k + 1) y0 y1 y2))
  | 0 => ⟨fun _ _ _ r h => by simp [lictorref07_Wrap.j0] at h, fun _ _ _ r h => by simp [lictorref07_Wrap.l0] at h⟩
  | k + 1 => by
    obtain ⟨ih0, ih1⟩ := lictorref07_Wrap.mono_l k
    refine ⟨?_, ?_⟩
    · intro y0 y1 y2
      unfold lictorref07_Wrap.j0
      repeat' first
      | (with_reducible exact ih0 _ _ _)
      | (with_reducible exact ih1 _ _ _)
      | (with_reducible exact lictorref07_Sum.mono _ _)
      | (with_reducible exact LeO.refl _)
      | (with_reducible exact LeO.none _)
      | (with_reducible refine LeO.ite ?_ ?_)
      | (with_reducible refine LeO.bind ?_ (fun _ => ?_))
      | exact ih0 _ _ _
      | exact ih1 _ _ _
      | exact lictorref07_Sum.mono _ _
      | exact LeO.none _
      | refine LeO.ite ?_ ?_
      | refine LeO.bind ?_ (fun _ => ?_)
    · intro y0 y1 y2
      unfold lictorref07_Wrap.l0
      repeat' first
      | (with_reducible exact ih0 _ _ _)
      | (with_reducible exact ih1 _ _ _)
      | (with_reducible exact lictorref07_Sum.mono _ _)
      | (with_reducible exact LeO.refl _)
      | (with_reducible exact LeO.none _)
      | (with_reducible refine LeO.ite ?_ ?_)
      | (with_reducible refine LeO.bind ?_ (fun _ => ?_))
      | exact ih0 _ _ _
      | exact ih1 _ _ _
      | exact lictorref07_Sum.mono _ _
      | exact LeO.none _
      | refine LeO.ite ?_ ?_
      | refine LeO.bind ?_ (fun _ => ?_)
theorem lictorref07_Wrap.mono : ∀ a0 k, LeO (lictorref07_Wrap.f k a0) (lictorref07_Wrap.f (k + 1) a0) := by
  intro a0 k
  obtain ⟨ih0, ih1⟩ := lictorref07_Wrap.mono_l k
  unfold lictorref07_Wrap.f
  repeat' first
      | (with_reducible exact ih0 _ _ _)
      | (with_reducible exact ih1 _ _ _)
      | (with_reducible exact lictorref07_Sum.mono _ _)
      | (with_reducible exact LeO.refl _)
      | (with_reducible exact LeO.none _)
      | (with_reducible refine LeO.ite ?_ ?_)
      | (with_reducible refine LeO.bind ?_ (fun _ => ?_))
      | exact ih0 _ _ _
      | exact ih1 _ _ _
      | exact lictorref07_Sum.mono _ _
      | exact LeO.none _
      | refine LeO.ite ?_ ?_
      | refine LeO.bind ?_ (fun _ => ?_)
set_option maxHeartbeats 8000000 in
set_option maxRecDepth 100000 in
theorem lictorref07_Wrap.calls (k : Nat) (A0 : Option Addr) (c0 : Nat) (l0 : List Int) (r1 : List Int) (r2 : Int) (w : World) (hr0 : Kd.C (Kd.int .u8) w A0 l0.length l0) (hc0 : l0.length ≤ c0) (h : lictorref07_Wrap.f k l0 = some (r1, r2)) :
    Calls Try.prog 6 #[.slice A0 l0.length c0] w fun e w' => ∃ v0_ : Value, e = .returned (.tuple #[v0_, .int .i64 r2]) ∧ Kd.R (Kd.int .u8) 5 w' w.heap.size (fun _ => True) v0_ r1 ∧ Below w.heap.size w w' := by
  have HR0 := Aside0.mk hr0
  have HC0 := Aside0.mk hc0
  clear hr0 hc0
  have HB := Aside0.mk (Below.refl w.heap.size w)
  have H : (if (l0.length : Int) < 1 then (lictorref07_Wrap.j0 k l0 (l0.length : Int) true) else (lictorref07_Wrap.j0 k l0 (l0.length : Int) (decide ((l0.length : Int) > 65535)))) = some (r1, r2) := h
  clear h
  have HC2 := Aside0.mk H
  clear H
  go_enter Try.func6, Try.ntmps6
  go_upto_region 2 with (fail)
  go_cut [15] (fun v15 wc => ∃ (kq : Nat) (x15_1 : Bool), v15 = .bool x15_1 ∧ Aside0 (lictorref07_Wrap.j0 kq l0 (l0.length : Int) x15_1 = some (r1, r2)) ∧ Aside0 (kq ≤ k) ∧ Aside0 (Below w.heap.size w wc))
  case first =>
    have H := HC2.out
    clear HC2
    by_cases c3 : (l0.length : Int) < 1
    · rw [if_pos c3] at H
      have c3b0 : decide ((l0.length : Int) < 1) = true := decide_eq_true c3
      have c3b1 : decide (l0.length < 1) = true := decide_eq_true (by omega)
      clear c3
      (first | rw [c3b0] | (simp only [i64_w, i32_w]; rw [c3b0]) | skip)
      have H' := Aside0.mk H
      clear H
      go_wp2
      go_meet
      case rel => exact ⟨_, (true), (by first | rfl | (simp; done) | (simp [*]; done)), H', ⟨by first | omega | exact Nat.le_refl _⟩, ⟨by repeat (first | (with_reducible first | exact HB.out | apply below_alloc | apply pw_below_drewN | apply below_drew1) | exact HB.out)⟩⟩
    · rw [if_neg c3] at H
      have c3b0 : decide ((l0.length : Int) < 1) = false := decide_eq_false c3
      have c3b1 : decide (l0.length < 1) = false := decide_eq_false (by omega)
      clear c3
      (first | rw [c3b0] | (simp only [i64_w, i32_w]; rw [c3b0]) | skip)
      have H' := Aside0.mk H
      clear H
      go_wp2
      go_meet
      case rel => exact ⟨_, (decide ((l0.length : Int) > 65535)), (by first | rfl | (simp; done) | (simp [*]; done)), H', ⟨by first | omega | exact Nat.le_refl _⟩, ⟨by repeat (first | (with_reducible first | exact HB.out | apply below_alloc | apply pw_below_drewN | apply below_drew1) | exact HB.out)⟩⟩
  case rest =>
    clear HC2
    try clear p2
    try clear c3
    try clear c3b0
    try clear c3b1
    obtain ⟨kq, x15_1, rfl, HA, HJ1, HB⟩ := hcut
    cases kq with
    | zero => exact absurd HA.out (by simp [lictorref07_Wrap.j0])
    | succ kj1 =>
      have H := HA.out
      clear HA
      simp only [lictorref07_Wrap.j0] at H
      by_cases c4 : x15_1 = true
      · subst c4
        have H1 : (some (([] : List Int), 1)) = some (r1, r2) := by rw [if_pos rfl] at H; exact H
        clear H
        have H := H1
        clear H1
        simp only [Option.some.injEq, Prod.mk.injEq] at H
        obtain ⟨rfl, rfl⟩ := H
        go_wp2
        go_ret2
        exact ⟨_, by first | rfl | (simp [errW_none, errW_some] <;> rfl) | (simp [*, errW_none, errW_some] <;> rfl), by first | exact Kd.R_nil _ _ _ _ _ | exact Kd.N_nil _ _ _ _ _ | exact Kd.V_nil _ _ _ _ _ | exact Kd.Q_nil _ _ _ _ _ | exact Kd.S_nil _ _ _ _ _, by repeat (first | (with_reducible first | exact HB.out | apply below_alloc | apply pw_below_drewN | apply below_drew1) | exact HB.out)⟩
      · replace c4 := Bool.eq_false_iff.mpr c4
        subst c4
        have H1 : ((some (([(l0.length : Int) % 256, (wrap64 ((l0.length : Int) / 256)) % 256] : List Int) : List Int)).bind fun y158 => (if y158.length + l0.length < 140737488355328 then ((lictorref07_Sum.f kj1 l0).bind fun t164 => (lictorref07_Wrap.l0 kj1 (y158 ++ l0) t164 0)) else (none))) = some (r1, r2) := by rw [if_neg (show ¬ (false = true) by decide)] at H; exact H
        clear H
        have H := H1
        clear H1
        obtain ⟨y158, hy158⟩ : ∃ y_ : List Int, y_ = (([(l0.length : Int) % 256, (wrap64 ((l0.length : Int) / 256)) % 256] : List Int)) := ⟨_, rfl⟩
        replace H : (if y158.length + l0.length < 140737488355328 then ((lictorref07_Sum.f kj1 l0).bind fun t164 => (lictorref07_Wrap.l0 kj1 (y158 ++ l0) t164 0)) else (none)) = some (r1, r2) := by first | (rw [hy158]; with_reducible exact H) | (have H2_ := (Option.bind_some _ _).symm.trans H; rw [hy158]; with_reducible exact H2_) | (have H2_ := (Option.bind_some _ _).symm.trans H; with_reducible exact H2_) | with_reducible exact H | (rw [hy158]; exact H) | exact H
        have Ny158 := Aside0.mk hy158
        clear hy158
        by_cases c5 : y158.length + l0.length < 140737488355328
        · rw [if_pos c5] at H
          have LMc5 := Aside0.mk c5
          clear c5
          obtain ⟨y161, hy161⟩ : ∃ y_ : List Int, y_ = (y158 ++ l0) := ⟨_, rfl⟩
          replace H : ((lictorref07_Sum.f kj1 l0).bind fun t164 => (lictorref07_Wrap.l0 kj1 y161 t164 0)) = some (r1, r2) := by first | (rw [hy161]; with_reducible exact H) | (have H2_ := (Option.bind_some _ _).symm.trans H; rw [hy161]; with_reducible exact H2_) | (have H2_ := (Option.bind_some _ _).symm.trans H; with_reducible exact H2_) | with_reducible exact H | (rw [hy161]; exact H) | exact H
          have Ny161 := Aside0.mk hy161
          clear hy161
          replace H := Option.bind_eq_some_iff.mp H
          obtain ⟨t164, A60, H⟩ := H
          replace H : (lictorref07_Wrap.l0 kj1 y161 t164 0) = some (r1, r2) := H
          have A6 := Aside0.mk A60
          clear A60
          have H' := Aside0.mk H
          clear H
          go_wp2_with (first | ((with_reducible refine gate_dst (N := 22) rfl ?_); refine Kd.R_lit (Kd.int .u8) _ 5 ?hg (N := 22) ?hd (xs := ([(l0.length : Int) % 256, (wrap64 ((l0.length : Int) / 256)) % 256] : List Int)) (inner := [.int .u8 ((l0.length : Int) % 256), .int .u8 ((wrap64 ((l0.length : Int) / 256)) % 256)]) (ok := fun _ => True) (okp := fun _ => True) ?hr ?hp (fun _ hk => hk) trivial (Below.refl _ _) (Nat.le_refl _) (by simp) ?_; (case hd => rfl); (case hg => rfl); (case hr => first | (go_simp; done) | (go_simp; rfl)); (case hp => exact (Reps.one (show Kd.M (Kd.int .u8) _ _ _ ((l0.length : Int) % 256) [.int .u8 ((l0.length : Int) % 256)] from rfl) (Reps.one (show Kd.M (Kd.int .u8) _ _ _ ((wrap64 ((l0.length : Int) / 256)) % 256) [.int .u8 ((wrap64 ((l0.length : Int) / 256)) % 256)] from rfl) (Reps.none _ _)))); intro v159 w7 ho8 hb hg_ hnew_; clear hg_ hnew_; (first | rw [← Ny158.out] at ho8 | (simp only [Int.reduceToNat] at ho8; rw [← Ny158.out] at ho8)); have n0_ := Aside0.mk (Kd.R_lower ho8 (below_size (by repeat (first | (with_reducible first | exact HB.out | apply below_alloc | apply pw_below_drewN | apply below_drew1) | exact HB.out)))); have n1_ := Aside0.mk (below_step (by repeat (first | (with_reducible first | exact HB.out | apply below_alloc | apply pw_below_drewN | apply below_drew1) | exact HB.out)) hb); clear HB; have HO160 := n0_; have HB := n1_; clear n0_ n1_; clear hb ho8) | ((with_reducible refine gate_builtin (b := .append) (xs := #[.tmp 22, .tmp 23]) rfl ?_); at_builtin; refine Kd.R_append_rows (Kd.int .u8) (w0 := w) w.heap.size rfl (.tmp 22) (.tmp 23) 22 5 (.int .u8 0) 1 rfl Try.underlying22 info5 rfl (by decide) (by omega) v159 y158 l0 _ _ _ (fun _ => True) (fun _ => False) rfl rfl ?aO ?aR (fun _ _ h => h) (fun _ h => h.elim) ?aF ?aB ?aS ?aL ?_; (case aR => repeat (first | exact (Kd.C_below HR0.out HB.out) | (with_reducible refine Kd.C_alloc ?_ _) | (with_reducible refine Kd.C_drewN ?_ _) | (with_reducible refine Kd.C_drew ?_))); (case aB => exact (by repeat (first | (with_reducible first | exact HB.out | apply below_alloc | apply pw_below_drewN | apply below_drew1) | exact HB.out))); (case aF => exact (fun _ _ => trivial)); (case aO => exact (by (with_reducible repeat (first | apply Kd.R_alloc | apply Kd.R_drewN | apply Kd.R_drew)); exact HO160.out)); (case aS => exact (below_size (by repeat (first | (with_reducible first | exact HB.out | apply below_alloc | apply pw_below_drewN | apply below_drew1) | exact HB.out)))); (case aL => have := LMc5.out; omega); intro v162 w9 ho hb hg hat; rw [← Ny161.out] at ho; have n0_ := Aside0.mk (hb); have n1_ := Aside0.mk (ho); clear HB; clear HO160; have HB := n0_; have HO163 := n1_; clear n0_ n1_; clear ho hb hg hat) | ((with_reducible refine gate_callee (f := 11) rfl ?_); refine goesL_ (some 26) rfl rfl Try.func11 (by kernel_rfl) rfl #[.slice A0 l0.length c0] rfl (by (try simp only [List.map_toArray, List.map_cons, List.map_nil]); first | done | rfl | (simp only [List.length_drop, List.length_take]; rfl)) ?_; (with_reducible refine (lictorref07_Sum.calls kj1 _ _ l0 t164 _ ?side1 ?side2 A6.out).mono ?_); (case side1 => repeat (first | exact (Kd.C_below HR0.out HB.out) | (with_reducible refine Kd.C_alloc ?_ _) | (with_reducible refine Kd.C_drewN ?_ _) | (with_reducible refine Kd.C_drew ?_))); (case side2 => exact HC0.out); rintro e w10 ⟨rfl, hb⟩; refine ⟨_, rfl, ?_⟩; have n0_ := Aside0.mk (Kd.R_below (by (with_reducible repeat (first | apply Kd.R_alloc | apply Kd.R_drewN | apply Kd.R_drew)); exact HO163.out) hb); have n1_ := Aside0.mk (below_step (by repeat (first | (with_reducible first | exact HB.out | apply below_alloc | apply pw_below_drewN | apply below_drew1) | exact HB.out)) hb); clear HO163; clear HB; have HO163 := n0_; have HB := n1_; clear n0_ n1_; (try clear hb); (try clear hb2); (try clear hk); (try clear hi)))
          go_loopg [5, 6, 7] kj1 (fun kq v5 v6 v7 w' => ∃ (x5_2 : List Int) (x6_2 : Int) (x7_2 : Int), v6 = .int .u32 x6_2 ∧ v7 = .int .i64 x7_2 ∧ Aside0 (lictorref07_Wrap.l0 kq x5_2 x6_2 x7_2 = some (r1, r2)) ∧ Aside0 (kq ≤ kj1) ∧ Aside0 (Kd.R (Kd.int .u8) 5 w' w.heap.size (fun _ => True) v5 x5_2) ∧ Aside0 (Below w.heap.size w w'))
          case atStart => exact ⟨(y161), (t164), (0), (by first | rfl | (simp; done) | (simp [*]; done)), (by first | rfl | (simp; done) | (simp [*]; done)), H', ⟨Nat.le_refl _⟩, ⟨by (with_reducible repeat (first | apply Kd.R_alloc | apply Kd.R_drewN | apply Kd.R_drew)); exact HO163.out⟩, ⟨by repeat (first | (with_reducible first | exact HB.out | apply below_alloc | apply pw_below_drewN | apply below_drew1) | exact HB.out)⟩⟩
          case round =>
            clear H'
            try clear c1
            try clear p2
            try clear c3
            try clear c3b0
            try clear c3b1
            try clear c4
            try clear c5
            try clear c6
            try clear p6
            try clear p2
            obtain ⟨x5_2, x6_2, x7_2, rfl, rfl, HA, HK2, HO_5, HB⟩ := hrel
            cases gk with
            | zero => exact absurd HA.out (by simp [lictorref07_Wrap.l0])
            | succ k2 =>
              have H := HA.out
              clear HA
              simp only [lictorref07_Wrap.l0] at H
              by_cases c11 : x7_2 < 4
              · rw [if_pos c11] at H
                have c11b0 : decide (x7_2 < 4) = true := decide_eq_true c11
                clear c11
                by_cases c12 : x5_2.length < 140737488355328
                · rw [if_pos c12] at H
                  have LMc12 := Aside0.mk c12
                  clear c12
                  obtain ⟨y165, hy165⟩ : ∃ y_ : List Int, y_ = (x5_2 ++ [(Int.tmod x6_2 256) % 256]) := ⟨_, rfl⟩
                  replace H : (lictorref07_Wrap.l0 k2 y165 ((Int.tdiv x6_2 256) % 4294967296) (wrap64 (x7_2 + 1))) = some (r1, r2) := by first | (rw [hy165]; with_reducible exact H) | (have H2_ := (Option.bind_some _ _).symm.trans H; rw [hy165]; with_reducible exact H2_) | (have H2_ := (Option.bind_some _ _).symm.trans H; with_reducible exact H2_) | with_reducible exact H | (rw [hy165]; exact H) | exact H
                  have Ny165 := Aside0.mk hy165
                  clear hy165
                  have H' := Aside0.mk H
                  clear H
                  go_wp2_with (first | ((with_reducible refine gate_builtin (b := .append) (xs := #[.tmp 31, .tmp 35]) rfl ?_); at_builtin; refine Kd.R_append (Kd.int .u8) (w0 := w) w.heap.size rfl (.tmp 31) (.tmp 35) 22 5 (.int .u8 0) 1 rfl Try.underlying22 info5 rfl (by decide) (by omega) u5 x5_2 ((Int.tmod x6_2 256) % 256) [.int .u8 ((Int.tmod x6_2 256) % 256)] (fun _ => True) (fun _ => False) rfl rfl ?aP (fun _ hk => hk.elim) ?aF ?aO ?aB ?aS ?aL ?_; (case aP => exact rfl); (case aB => exact (by repeat (first | (with_reducible first | exact HB.out | apply below_alloc | apply pw_below_drewN | apply below_drew1) | exact HB.out))); (case aF => exact (fun _ _ => trivial)); (case aO => exact (by (with_reducible repeat (first | apply Kd.R_alloc | apply Kd.R_drewN | apply Kd.R_drew)); exact HO_5.out)); (case aS => exact (below_size (by repeat (first | (with_reducible first | exact HB.out | apply below_alloc | apply pw_below_drewN | apply below_drew1) | exact HB.out)))); (case aL => have := LMc12.out; omega); intro v166 w13 ho hb hg hat; rw [← Ny165.out] at ho; have n0_ := Aside0.mk (hb); have n1_ := Aside0.mk (ho); clear HB; clear HO_5; have HB := n0_; have HO167 := n1_; clear n0_ n1_; clear ho hb hg hat))
                  go_roundg k2
                  case measure => have := HJ1.out; have := HK2.out; omega
                  case rel => exact ⟨(y165), ((Int.tdiv x6_2 256) % 4294967296), (wrap64 (x7_2 + 1)), (by first | rfl | (simp; done) | (simp [*]; done)), (by first | rfl | (simp; done) | (simp [*]; done)), H', ⟨by have := HJ1.out; have := HK2.out; omega⟩, ⟨by (with_reducible repeat (first | apply Kd.R_alloc | apply Kd.R_drewN | apply Kd.R_drew)); exact HO167.out⟩, ⟨by repeat (first | (with_reducible first | exact HB.out | apply below_alloc | apply pw_below_drewN | apply below_drew1) | exact HB.out)⟩⟩
                · rw [if_neg c12] at H
                  exact absurd H (by simp)
              · rw [if_neg c11] at H
                have c11b0 : decide (x7_2 < 4) = false := decide_eq_false c11
                clear c11
                simp only [Option.some.injEq, Prod.mk.injEq] at H
                obtain ⟨rfl, rfl⟩ := H
                go_wp2
                go_ret2
                exact ⟨_, by first | rfl | (simp [errW_none, errW_some] <;> rfl) | (simp [*, errW_none, errW_some] <;> rfl), by (with_reducible repeat (first | apply Kd.R_alloc | apply Kd.R_drewN | apply Kd.R_drew)); exact HO_5.out, by repeat (first | (with_reducible first | exact HB.out | apply below_alloc | apply pw_below_drewN | apply below_drew1) | exact HB.out)⟩
        · rw [if_neg c5] at H
          exact absurd H (by simp)

/-! ### lictorref07_Scan: function 8 -/
mutual
def lictorref07_Scan.l0 : Nat → List Int → List (List Int) → Int → Option ((List (List Int)) × Int)
  | 0, _, _, _ => none
  | k + 1, x0, x4, x5 => if (wrap64 (x5 + 2)) ≤ (x0.length : Int) then (if 0 ≤ x5 then (if x5 < (x0.length : Int) then (if 0 ≤ (wrap64 (x5 + 1)) then (if (wrap64 (x5 + 1)) < (x0.length : Int) then (if (wrap64 ((wrap64 (rd x0 x5)) + (wrap64 (256 * (wrap64 (rd x0 (wrap64 (x5 + 1)))))))) < 1 then (lictorref07_Scan.j1 k x0 x4 x5 (wrap64 ((wrap64 (rd x0 x5)) + (wrap64 (256 * (wrap64 (rd x0 (wrap64 (x5 + 1)))))))) true) else (lictorref07_Scan.j1 k x0 x4 x5 (wrap64 ((wrap64 (rd x0 x5)) + (wrap64 (256 * (wrap64 (rd x0 (wrap64 (x5 + 1)))))))) (decide ((wrap64 ((wrap64 (x5 + (wrap64 ((wrap64 (rd x0 x5)) + (wrap64 (256 * (wrap64 (rd x0 (wrap64 (x5 + 1)))))))))) + 6)) > (x0.length : Int))))) else (none)) else (none)) else (none)) else (none)) else (some (x4, x5))
def lictorref07_Scan.j1 : Nat → List Int → List (List Int) → Int → Int → Bool → Option ((List (List Int)) × Int)
  | 0, _, _, _, _, _ => none
  | k + 1, x0, x4, x5, x6, x38 => if x38 = true then (some (x4, x5)) else (if 0 ≤ (wrap64 (x5 + 2)) then (if (wrap64 (x5 + 2)) ≤ (wrap64 ((wrap64 (x5 + 2)) + x6)) then (if (wrap64 ((wrap64 (x5 + 2)) + x6)) ≤ (x0.length : Int) then ((some ((x0.take ((wrap64 ((wrap64 (x5 + 2)) + x6)) : Int).toNat).drop ((wrap64 (x5 + 2)) : Int).toNat : List Int)).bind fun y170 => ((lictorref07_Wrap.f k y170).bind fun bt174 => (if 0 ≤ x5 then (if x5 ≤ (wrap64 ((wrap64 (x5 + x6)) + 6)) then (if (wrap64 ((wrap64 (x5 + x6)) + 6)) ≤ (x0.length : Int) then (if (strOfNums bt174.1).toList = (strOfNums ((x0.take ((wrap64 ((wrap64 (x5 + x6)) + 6)) : Int).toNat).drop (x5 : Int).toNat)).toList then ((some (([] : List Int) : List Int)).bind fun y179 => (if y179.length + y170.length < 140737488355328 then (if x4.length < 5864062014805 then (lictorref07_Scan.l0 k x0 (x4 ++ [(y179 ++ y170)]) (wrap64 ((wrap64 (x5 + x6)) + 6))) else (none)) else (none))) else (some (x4, x5))) else (none)) else (none)) else (none)))) else (none)) else (none)) else (none))
end
def lictorref07_Scan.f (k : Nat) (l0 : List Int) : Option ((List (List Int)) × Int) := lictorref07_Scan.l0 k l0 ([] : List (List Int)) 0
theorem lictorref07_Scan.mono_l : ∀ k, (∀ y0 y1 y2, LeO (lictorref07_Scan.l0 k y0 y1 y2) (lictorref07_Scan.l0 (k + 1) y0 y1 y2)) ∧ (∀ y0 y1 y2 y3 y4, LeO (lictorref07_Scan.j1 k y0 y1 y2 y3 y4) (lictorref07_Scan.j1 (k + 1) y0 y1 y2 y3 y4))
  | 0 => ⟨fun _ _ _ r h => by simp [lictorref07_Scan.l0] at h, fun _ _ _ _ _ r h => by simp [lictorref07_Scan.j1] at h⟩
  | k + 1 => by
    obtain ⟨ih0, ih1⟩ := lictorref07_Scan.mono_l k
    refine ⟨?_, ?_⟩
    · intro y0 y1 y2
      unfold lictorref07_Scan.l0
      repeat' first
      | (with_reducible exact ih0 _ _ _)
      | (with_reducible exact ih1 _ _ _ _ _)
      | (with_reducible exact lictorref07_Wrap.mono _ _)
      | (with_reducible exact LeO.refl _)
      | (with_reducible exact LeO.none _)
      | (with_reducible refine LeO.ite ?_ ?_)
      | (with_reducible refine LeO.bind ?_ (fun _ => ?_))
      | exact ih0 _ _ _
      | exact ih1 _ _ _ _ _
      | exact lictorref07_Wrap.mono _ _
      | exact LeO.none _
      | refine LeO.ite ?_ ?_
      | refine LeO.bind ?_ (fun _ => ?_)
    · intro y0 y1 y2 y3 y4
      unfold lictorref07_Scan.j1
      repeat' first
      | (with_reducible exact ih0 _ _ _)
      | (with_reducible exact ih1 _ _ _ _ _)
      | (with_reducible exact lictorref07_Wrap.mono _ _)
      | (with_reducible exact LeO.refl _)
      | (with_reducible exact LeO.none _)
      | (with_reducible refine LeO.ite ?_ ?_)
      | (with_reducible refine LeO.bind ?_ (fun _ => ?_))
      | exact ih0 _ _ _
      | exact ih1 _ _ _ _ _
      | exact lictorref07_Wrap.mono _ _
      | exact LeO.none _
      | refine LeO.ite ?_ ?_
      | refine LeO.bind ?_ (fun _ => ?_)
theorem lictorref07_Scan.mono : ∀ a0 k, LeO (lictorref07_Scan.f k a0) (lictorref07_Scan.f (k + 1) a0) := by
  intro a0 k
  obtain ⟨ih0, ih1⟩ := lictorref07_Scan.mono_l k
  unfold lictorref07_Scan.f
  repeat' first
      | (with_reducible exact ih0 _ _ _)
      | (with_reducible exact ih1 _ _ _ _ _)
      | (with_reducible exact lictorref07_Wrap.mono _ _)
      | (with_reducible exact LeO.refl _)
      | (with_reducible exact LeO.none _)
      | (with_reducible refine LeO.ite ?_ ?_)
      | (with_reducible refine LeO.bind ?_ (fun _ => ?_))
      | exact ih0 _ _ _
      | exact ih1 _ _ _ _ _
      | exact lictorref07_Wrap.mono _ _
      | exact LeO.none _
      | refine LeO.ite ?_ ?_
      | refine LeO.bind ?_ (fun _ => ?_)
set_option maxHeartbeats 8000000 in
set_option maxRecDepth 100000 in
theorem lictorref07_Scan.calls (k : Nat) (A0 : Option Addr) (c0 : Nat) (l0 : List Int) (r1 : List (List Int)) (r2 : Int) (w : World) (hr0 : Kd.C (Kd.int .u8) w A0 l0.length l0) (hc0 : l0.length ≤ c0) (h : lictorref07_Scan.f k l0 = some (r1, r2)) :
    Calls Try.prog 8 #[.slice A0 l0.length c0] w fun e w' => ∃ v0_ : Value, e = .returned (.tuple #[v0_, .int .i64 r2]) ∧ Kd.S (Kd.slice 5 (Kd.int .u8)) 22 w' w.heap.size (fun _ => True) v0_ r1 ∧ Below w.heap.size w w' := by
  have HR0 := Aside0.mk hr0
  have HC0 := Aside0.mk hc0
  clear hr0 hc0
  have HB := Aside0.mk (Below.refl w.heap.size w)
  have H : (lictorref07_Scan.l0 k l0 ([] : List (List Int)) 0) = some (r1, r2) := h
  clear h
  have H' := Aside0.mk H
  clear H
  go_enter Try.func8, Try.ntmps8
  go_wp2
  repeat (go_quiet (fail); try go_wp2)
  go_loopg [4, 5] k (fun kq v4 v5 w' => ∃ (x4_1 : List (List Int)) (x5_1 : Int), v5 = .int .i64 x5_1 ∧ Aside0 (lictorref07_Scan.l0 kq l0 x4_1 x5_1 = some (r1, r2)) ∧ Aside0 (kq ≤ k) ∧ Aside0 (Kd.S (Kd.slice 5 (Kd.int .u8)) 22 w' w.heap.size (fun _ => True) v4 x4_1) ∧ Aside0 (Below w.heap.size w w'))
  case atStart => exact ⟨(([] : List (List Int))), (0), (by first | rfl | (simp; done) | (simp [*]; done)), H', ⟨Nat.le_refl _⟩, ⟨by first | exact Kd.S_nil _ _ _ _ _ | exact Kd.N_nil _ _ _ _ _ | exact Kd.V_nil _ _ _ _ _ | exact Kd.Q_nil _ _ _ _ _ | exact Kd.R_nil _ _ _ _ _⟩, ⟨by repeat (first | (with_reducible first | exact HB.out | apply below_alloc | apply pw_below_drewN | apply below_drew1) | exact HB.out)⟩⟩
  case round =>
    clear H'
    obtain ⟨x4_1, x5_1, rfl, HA, HK1, HO_4, HB⟩ := hrel
    cases gk with
    | zero => exact absurd HA.out (by simp [lictorref07_Scan.l0])
    | succ k1 =>
      have H := HA.out
      clear HA
      simp only [lictorref07_Scan.l0] at H
      by_cases c2 : (wrap64 (x5_1 + 2)) ≤ (l0.length : Int)
      · rw [if_pos c2] at H
        have c2b0 : decide ((wrap64 (x5_1 + 2)) ≤ (l0.length : Int)) = true := decide_eq_true c2
        clear c2
        by_cases c3 : 0 ≤ x5_1
        · rw [if_pos c3] at H
          have c3b0 : decide (0 ≤ x5_1) = true := decide_eq_true c3
          clear c3
          by_cases c4 : x5_1 < (l0.length : Int)
          · rw [if_pos c4] at H
            have c4b0 : decide (x5_1 < (l0.length : Int)) = true := decide_eq_true c4
            clear c4
            obtain ⟨ji5, hji5⟩ : ∃ j_ : Int, (wrap64 (x5_1 + 1)) = j_ := ⟨_, rfl⟩
            replace H : (if 0 ≤ (ji5) then (if (ji5) < (l0.length : Int) then (if (wrap64 ((wrap64 (rd l0 x5_1)) + (wrap64 (256 * (wrap64 (rd l0 (ji5))))))) < 1 then (lictorref07_Scan.j1 k1 l0 x4_1 x5_1 (wrap64 ((wrap64 (rd l0 x5_1)) + (wrap64 (256 * (wrap64 (rd l0 (ji5))))))) true) else (lictorref07_Scan.j1 k1 l0 x4_1 x5_1 (wrap64 ((wrap64 (rd l0 x5_1)) + (wrap64 (256 * (wrap64 (rd l0 (ji5))))))) (decide ((wrap64 ((wrap64 (x5_1 + (wrap64 ((wrap64 (rd l0 x5_1)) + (wrap64 (256 * (wrap64 (rd l0 (ji5))))))))) + 6)) > (l0.length : Int))))) else (none)) else (none)) = some (r1, r2) := by first | (rw [hji5] at H; exact H) | (simp only [hji5] at H ⊢; exact H)
            have hji5w : (IntKind.i64.wrap (x5_1 + 1)) = ji5 := (i64_w _).trans hji5
            by_cases c6 : 0 ≤ (ji5)
            · rw [if_pos c6] at H
              have c6b0 : decide (0 ≤ (ji5)) = true := decide_eq_true c6
              clear c6
              by_cases c7 : (ji5) < (l0.length : Int)
              · rw [if_pos c7] at H
                have c7b0 : decide ((ji5) < (l0.length : Int)) = true := decide_eq_true c7
                clear c7
                have HC8 := Aside0.mk H
                clear H
                have p168 : 0 ≤ (x5_1 : Int) := of_decide_eq_true (by first | (with_reducible assumption) | assumption)
                have q168 : x5_1 < (l0.length : Int) := of_decide_eq_true (by first | (with_reducible assumption) | assumption)
                obtain ⟨ad168, e168, hx168_0⟩ := Kd.at_int HR0.out x5_1 p168 q168
                cases e168
                replace hx168_0 := (HB.out.cell (World.block_lt_of_cell? w _ hx168_0)).trans hx168_0
                replace p168 := eq_true p168
                replace q168 := eq_true q168
                have p169 : 0 ≤ ((ji5) : Int) := of_decide_eq_true (by first | (with_reducible assumption) | assumption)
                have q169 : (ji5) < (l0.length : Int) := of_decide_eq_true (by first | (with_reducible assumption) | assumption)
                obtain ⟨ad169, e169, hx169_0⟩ := Kd.at_int HR0.out (ji5) p169 q169
                obtain rfl : ad168 = ad169 := (by injection e169)
                replace hx169_0 := (HB.out.cell (World.block_lt_of_cell? w _ hx169_0)).trans hx169_0
                replace p169 := eq_true p169
                replace q169 := eq_true q169
                go_upto_region 5 with (fail)
                repeat (go_quiet (fail); go_upto_region 5 with (fail))
                go_cut [38] (fun v38 wc => ∃ (kq : Nat) (x38_7 : Bool), v38 = .bool x38_7 ∧ Aside0 (lictorref07_Scan.j1 kq l0 x4_1 x5_1 (wrap64 ((wrap64 (rd l0 x5_1)) + (wrap64 (256 * (wrap64 (rd l0 (ji5))))))) x38_7 = some (r1, r2)) ∧ Aside0 (kq ≤ k1) ∧ Aside0 (Kd.S (Kd.slice 5 (Kd.int .u8)) 22 wc w.heap.size (fun _ => True) u4 x4_1) ∧ Aside0 (Below w.heap.size w wc))
                case first =>
                  have H := HC8.out
                  clear HC8
                  by_cases c9 : (wrap64 ((wrap64 (rd l0 x5_1)) + (wrap64 (256 * (wrap64 (rd l0 (ji5))))))) < 1
                  · rw [if_pos c9] at H
                    have c9b0 : decide ((wrap64 ((wrap64 (rd l0 x5_1)) + (wrap64 (256 * (wrap64 (rd l0 (ji5))))))) < 1) = true := decide_eq_true c9
                    clear c9
                    (first | rw [c9b0] | (simp only [i64_w, i32_w]; rw [c9b0]) | skip)
                    have H' := Aside0.mk H
                    clear H
                    go_wp2
                    repeat (go_quiet (fail); try go_wp2)
                    go_meet
                    case rel => exact ⟨_, (true), (by first | rfl | (simp; done) | (simp [*]; done)), H', ⟨by have := HK1.out; first | omega | exact Nat.le_refl _⟩, ⟨by (with_reducible repeat (first | apply Kd.S_alloc | apply Kd.S_drewN | apply Kd.S_drew)); exact HO_4.out⟩, ⟨by repeat (first | (with_reducible first | exact HB.out | apply below_alloc | apply pw_below_drewN | apply below_drew1) | exact HB.out)⟩⟩
                  · rw [if_neg c9] at H
                    have c9b0 : decide ((wrap64 ((wrap64 (rd l0 x5_1)) + (wrap64 (256 * (wrap64 (rd l0 (ji5))))))) < 1) = false := decide_eq_false c9
                    clear c9
                    (first | rw [c9b0] | (simp only [i64_w, i32_w]; rw [c9b0]) | skip)
                    have H' := Aside0.mk H
                    clear H
                    go_wp2
                    repeat (go_quiet (fail); try go_wp2)
                    go_meet
                    case rel => exact ⟨_, (decide ((wrap64 ((wrap64 (x5_1 + (wrap64 ((wrap64 (rd l0 x5_1)) + (wrap64 (256 * (wrap64 (rd l0 (ji5))))))))) + 6)) > (l0.length : Int))), (by first | rfl | (simp; done) | (simp only [← hji5] <;> (first | rfl | simp)) | (simp [*]; done)), H', ⟨by have := HK1.out; first | omega | exact Nat.le_refl _⟩, ⟨by (with_reducible repeat (first | apply Kd.S_alloc | apply Kd.S_drewN | apply Kd.S_drew)); exact HO_4.out⟩, ⟨by repeat (first | (with_reducible first | exact HB.out | apply below_alloc | apply pw_below_drewN | apply below_drew1) | exact HB.out)⟩⟩
                case rest =>
                  clear HC8
                  try clear p1
                  try clear q1
                  try clear hx1
                  try clear c2
                  try clear c2b0
                  try clear p2
                  try clear c3
                  try clear c3b0
                  try clear c4
                  try clear c4b0
                  try clear c6
                  try clear c6b0
                  try clear p6
                  try clear c7
                  try clear c7b0
                  try clear c8
                  try clear c9
                  try clear c9b0
                  try clear hx168_0
                  try clear hx169_0
                  try clear p168
                  try clear p169
                  try clear q168
                  try clear q169
                  obtain ⟨kq, x38_7, rfl, HA, HJ7, HO_4, HB⟩ := hcut
                  cases kq with
                  | zero => exact absurd HA.out (by simp [lictorref07_Scan.j1])
                  | succ kj7 =>
                    have H := HA.out
                    clear HA
                    simp only [lictorref07_Scan.j1] at H
                    by_cases c10 : x38_7 = true
                    · subst c10
                      have H1 : (some (x4_1, x5_1)) = some (r1, r2) := by rw [if_pos rfl] at H; exact H
                      clear H
                      have H := H1
                      clear H1
                      simp only [Option.some.injEq, Prod.mk.injEq] at H
                      obtain ⟨rfl, rfl⟩ := H
                      go_wp2
                      repeat (go_quiet (fail); try go_wp2)
                      go_ret2
                      exact ⟨_, by first | rfl | (simp [errW_none, errW_some] <;> rfl) | (simp only [← hji5]; first | rfl | (simp [errW_none, errW_some] <;> rfl)) | (simp [*, errW_none, errW_some] <;> rfl), by (with_reducible repeat (first | apply Kd.S_alloc | apply Kd.S_drewN | apply Kd.S_drew)); exact HO_4.out, by repeat (first | (with_reducible first | exact HB.out | apply below_alloc | apply pw_below_drewN | apply below_drew1) | exact HB.out)⟩
                    · replace c10 := Bool.eq_false_iff.mpr c10
                      subst c10
                      have H1 : (if 0 ≤ (wrap64 (x5_1 + 2)) then (if (wrap64 (x5_1 + 2)) ≤ (wrap64 ((wrap64 (x5_1 + 2)) + (wrap64 ((wrap64 (rd l0 x5_1)) + (wrap64 (256 * (wrap64 (rd l0 (ji5))))))))) then (if (wrap64 ((wrap64 (x5_1 + 2)) + (wrap64 ((wrap64 (rd l0 x5_1)) + (wrap64 (256 * (wrap64 (rd l0 (ji5))))))))) ≤ (l0.length : Int) then ((some ((l0.take ((wrap64 ((wrap64 (x5_1 + 2)) + (wrap64 ((wrap64 (rd l0 x5_1)) + (wrap64 (256 * (wrap64 (rd l0 (ji5))))))))) : Int).toNat).drop ((wrap64 (x5_1 + 2)) : Int).toNat : List Int)).bind fun y170 => ((lictorref07_Wrap.f kj7 y170).bind fun bt174 => (if 0 ≤ x5_1 then (if x5_1 ≤ (wrap64 ((wrap64 (x5_1 + (wrap64 ((wrap64 (rd l0 x5_1)) + (wrap64 (256 * (wrap64 (rd l0 (ji5))))))))) + 6)) then (if (wrap64 ((wrap64 (x5_1 + (wrap64 ((wrap64 (rd l0 x5_1)) + (wrap64 (256 * (wrap64 (rd l0 (ji5))))))))) + 6)) ≤ (l0.length : Int) then (if (strOfNums bt174.1).toList = (strOfNums ((l0.take ((wrap64 ((wrap64 (x5_1 + (wrap64 ((wrap64 (rd l0 x5_1)) + (wrap64 (256 * (wrap64 (rd l0 (ji5))))))))) + 6)) : Int).toNat).drop (x5_1 : Int).toNat)).toList then ((some (([] : List Int) : List Int)).bind fun y179 => (if y179.length + y170.length < 140737488355328 then (if x4_1.length < 5864062014805 then (lictorref07_Scan.l0 kj7 l0 (x4_1 ++ [(y179 ++ y170)]) (wrap64 ((wrap64 (x5_1 + (wrap64 ((wrap64 (rd l0 x5_1)) + (wrap64 (256 * (wrap64 (rd l0 (ji5))))))))) + 6))) else (none)) else (none))) else (some (x4_1, x5_1))) else (none)) else (none)) else (none)))) else (none)) else (none)) else (none)) = some (r1, r2) := by rw [if_neg (show ¬ (false = true) by decide)] at H; exact H
                      clear H
                      have H := H1
                      clear H1
                      obtain ⟨ji11, hji11⟩ : ∃ j_ : Int, (wrap64 (x5_1 + 2)) = j_ := ⟨_, rfl⟩
                      replace H : (if 0 ≤ (ji11) then (if (ji11) ≤ (wrap64 ((ji11) + (wrap64 ((wrap64 (rd l0 x5_1)) + (wrap64 (256 * (wrap64 (rd l0 (ji5))))))))) then (if (wrap64 ((ji11) + (wrap64 ((wrap64 (rd l0 x5_1)) + (wrap64 (256 * (wrap64 (rd l0 (ji5))))))))) ≤ (l0.length : Int) then ((some ((l0.take ((wrap64 ((ji11) + (wrap64 ((wrap64 (rd l0 x5_1)) + (wrap64 (256 * (wrap64 (rd l0 (ji5))))))))) : Int).toNat).drop ((ji11) : Int).toNat : List Int)).bind fun y170 => ((lictorref07_Wrap.f kj7 y170).bind fun bt174 => (if 0 ≤ x5_1 then (if x5_1 ≤ (wrap64 ((wrap64 (x5_1 + (wrap64 ((wrap64 (rd l0 x5_1)) + (wrap64 (256 * (wrap64 (rd l0 (ji5))))))))) + 6)) then (if (wrap64 ((wrap64 (x5_1 + (wrap64 ((wrap64 (rd l0 x5_1)) + (wrap64 (256 * (wrap64 (rd l0 (ji5))))))))) + 6)) ≤ (l0.length : Int) then (if (strOfNums bt174.1).toList = (strOfNums ((l0.take ((wrap64 ((wrap64 (x5_1 + (wrap64 ((wrap64 (rd l0 x5_1)) + (wrap64 (256 * (wrap64 (rd l0 (ji5))))))))) + 6)) : Int).toNat).drop (x5_1 : Int).toNat)).toList then ((some (([] : List Int) : List Int)).bind fun y179 => (if y179.length + y170.length < 140737488355328 then (if x4_1.length < 5864062014805 then (lictorref07_Scan.l0 kj7 l0 (x4_1 ++ [(y179 ++ y170)]) (wrap64 ((wrap64 (x5_1 + (wrap64 ((wrap64 (rd l0 x5_1)) + (wrap64 (256 * (wrap64 (rd l0 (ji5))))))))) + 6))) else (none)) else (none))) else (some (x4_1, x5_1))) else (none)) else (none)) else (none)))) else (none)) else (none)) else (none)) = some (r1, r2) := by first | (rw [hji11] at H; exact H) | (simp only [hji11] at H ⊢; exact H)
                      (try rw [hji11] at c2b0)
                      have hji11w : (IntKind.i64.wrap (x5_1 + 2)) = ji11 := (i64_w _).trans hji11
                      by_cases c12 : 0 ≤ (ji11)
                      · rw [if_pos c12] at H
                        have c12b0 := eq_true c12
                        have c12b1 : decide (0 ≤ (ji11)) = true := decide_eq_true c12
                        clear c12
                        by_cases c13 : (ji11) ≤ (wrap64 ((ji11) + (wrap64 ((wrap64 (rd l0 x5_1)) + (wrap64 (256 * (wrap64 (rd l0 (ji5)))))))))
                        · rw [if_pos c13] at H
                          have c13b0 := eq_true c13
                          have c13b1 : decide ((ji11) ≤ (wrap64 ((ji11) + (wrap64 ((wrap64 (rd l0 x5_1)) + (wrap64 (256 * (wrap64 (rd l0 (ji5)))))))))) = true := decide_eq_true c13
                          by_cases c14 : (wrap64 ((ji11) + (wrap64 ((wrap64 (rd l0 x5_1)) + (wrap64 (256 * (wrap64 (rd l0 (ji5))))))))) ≤ (l0.length : Int)
                          · rw [if_pos c14] at H
                            have c14b0 := eq_true c14
                            have c14b1 : decide ((wrap64 ((ji11) + (wrap64 ((wrap64 (rd l0 x5_1)) + (wrap64 (256 * (wrap64 (rd l0 (ji5))))))))) ≤ (l0.length : Int)) = true := decide_eq_true c14
                            obtain ⟨y170, hy170⟩ : ∃ y_ : List Int, y_ = ((l0.take ((wrap64 ((ji11) + (wrap64 ((wrap64 (rd l0 x5_1)) + (wrap64 (256 * (wrap64 (rd l0 (ji5))))))))) : Int).toNat).drop ((ji11) : Int).toNat) := ⟨_, rfl⟩
                            replace H : ((lictorref07_Wrap.f kj7 y170).bind fun bt174 => (if 0 ≤ x5_1 then (if x5_1 ≤ (wrap64 ((wrap64 (x5_1 + (wrap64 ((wrap64 (rd l0 x5_1)) + (wrap64 (256 * (wrap64 (rd l0 (ji5))))))))) + 6)) then (if (wrap64 ((wrap64 (x5_1 + (wrap64 ((wrap64 (rd l0 x5_1)) + (wrap64 (256 * (wrap64 (rd l0 (ji5))))))))) + 6)) ≤ (l0.length : Int) then (if (strOfNums bt174.1).toList = (strOfNums ((l0.take ((wrap64 ((wrap64 (x5_1 + (wrap64 ((wrap64 (rd l0 x5_1)) + (wrap64 (256 * (wrap64 (rd l0 (ji5))))))))) + 6)) : Int).toNat).drop (x5_1 : Int).toNat)).toList then ((some (([] : List Int) : List Int)).bind fun y179 => (if y179.length + y170.length < 140737488355328 then (if x4_1.length < 5864062014805 then (lictorref07_Scan.l0 kj7 l0 (x4_1 ++ [(y179 ++ y170)]) (wrap64 ((wrap64 (x5_1 + (wrap64 ((wrap64 (rd l0 x5_1)) + (wrap64 (256 * (wrap64 (rd l0 (ji5))))))))) + 6))) else (none)) else (none))) else (some (x4_1, x5_1))) else (none)) else (none)) else (none))) = some (r1, r2) := by first | (rw [hy170]; with_reducible exact H) | (have H2_ := (Option.bind_some _ _).symm.trans H; rw [hy170]; with_reducible exact H2_) | (have H2_ := (Option.bind_some _ _).symm.trans H; with_reducible exact H2_) | with_reducible exact H | (rw [hy170]; exact H) | exact H
                            have Ny170 := Aside0.mk hy170
                            clear hy170
                            replace H := Option.bind_eq_some_iff.mp H
                            obtain ⟨⟨t174, t175⟩, A150, H⟩ := H
                            replace H : (if 0 ≤ x5_1 then (if x5_1 ≤ (wrap64 ((wrap64 (x5_1 + (wrap64 ((wrap64 (rd l0 x5_1)) + (wrap64 (256 * (wrap64 (rd l0 (ji5))))))))) + 6)) then (if (wrap64 ((wrap64 (x5_1 + (wrap64 ((wrap64 (rd l0 x5_1)) + (wrap64 (256 * (wrap64 (rd l0 (ji5))))))))) + 6)) ≤ (l0.length : Int) then (if (strOfNums t174).toList = (strOfNums ((l0.take ((wrap64 ((wrap64 (x5_1 + (wrap64 ((wrap64 (rd l0 x5_1)) + (wrap64 (256 * (wrap64 (rd l0 (ji5))))))))) + 6)) : Int).toNat).drop (x5_1 : Int).toNat)).toList then ((some (([] : List Int) : List Int)).bind fun y179 => (if y179.length + y170.length < 140737488355328 then (if x4_1.length < 5864062014805 then (lictorref07_Scan.l0 kj7 l0 (x4_1 ++ [(y179 ++ y170)]) (wrap64 ((wrap64 (x5_1 + (wrap64 ((wrap64 (rd l0 x5_1)) + (wrap64 (256 * (wrap64 (rd l0 (ji5))))))))) + 6))) else (none)) else (none))) else (some (x4_1, x5_1))) else (none)) else (none)) else (none)) = some (r1, r2) := H
                            have A15 := Aside0.mk A150
                            clear A150
                            by_cases c16 : 0 ≤ x5_1
                            · rw [if_pos c16] at H
                              have c16b0 := eq_true c16
                              have c16b1 : decide (0 ≤ x5_1) = true := decide_eq_true c16
                              clear c16
                              by_cases c17 : x5_1 ≤ (wrap64 ((wrap64 (x5_1 + (wrap64 ((wrap64 (rd l0 x5_1)) + (wrap64 (256 * (wrap64 (rd l0 (ji5))))))))) + 6))
                              · rw [if_pos c17] at H
                                have c17b0 := eq_true c17
                                have c17b1 : decide (x5_1 ≤ (wrap64 ((wrap64 (x5_1 + (wrap64 ((wrap64 (rd l0 x5_1)) + (wrap64 (256 * (wrap64 (rd l0 (ji5))))))))) + 6))) = true := decide_eq_true c17
                                by_cases c18 : (wrap64 ((wrap64 (x5_1 + (wrap64 ((wrap64 (rd l0 x5_1)) + (wrap64 (256 * (wrap64 (rd l0 (ji5))))))))) + 6)) ≤ (l0.length : Int)
                                · rw [if_pos c18] at H
                                  have c18b0 := eq_true c18
                                  have c18b1 : decide ((wrap64 ((wrap64 (x5_1 + (wrap64 ((wrap64 (rd l0 x5_1)) + (wrap64 (256 * (wrap64 (rd l0 (ji5))))))))) + 6)) ≤ (l0.length : Int)) = true := decide_eq_true c18
                                  by_cases c19 : (strOfNums t174).toList = (strOfNums ((l0.take ((wrap64 ((wrap64 (x5_1 + (wrap64 ((wrap64 (rd l0 x5_1)) + (wrap64 (256 * (wrap64 (rd l0 (ji5))))))))) + 6)) : Int).toNat).drop (x5_1 : Int).toNat)).toList
                                  · rw [if_pos c19] at H
                                    have c19b0 : ((strOfNums t174).toList == (strOfNums ((l0.take ((wrap64 ((wrap64 (x5_1 + (wrap64 ((wrap64 (rd l0 x5_1)) + (wrap64 (256 * (wrap64 (rd l0 (ji5))))))))) + 6)) : Int).toNat).drop (x5_1 : Int).toNat)).toList) = true := beq_iff_eq.mpr c19
                                    have c19b1 : ((strOfNums t174).toList != (strOfNums ((l0.take ((wrap64 ((wrap64 (x5_1 + (wrap64 ((wrap64 (rd l0 x5_1)) + (wrap64 (256 * (wrap64 (rd l0 (ji5))))))))) + 6)) : Int).toNat).drop (x5_1 : Int).toNat)).toList) = false := bne_eq_false_iff_eq.mpr c19
                                    clear c19
                                    obtain ⟨y179, hy179⟩ : ∃ y_ : List Int, y_ = (([] : List Int)) := ⟨_, rfl⟩
                                    replace H : (if y179.length + y170.length < 140737488355328 then (if x4_1.length < 5864062014805 then (lictorref07_Scan.l0 kj7 l0 (x4_1 ++ [(y179 ++ y170)]) (wrap64 ((wrap64 (x5_1 + (wrap64 ((wrap64 (rd l0 x5_1)) + (wrap64 (256 * (wrap64 (rd l0 (ji5))))))))) + 6))) else (none)) else (none)) = some (r1, r2) := by first | (rw [hy179]; with_reducible exact H) | (have H2_ := (Option.bind_some _ _).symm.trans H; rw [hy179]; with_reducible exact H2_) | (have H2_ := (Option.bind_some _ _).symm.trans H; with_reducible exact H2_) | with_reducible exact H | (rw [hy179]; exact H) | exact H
                                    have Ny179 := Aside0.mk hy179
                                    clear hy179
                                    by_cases c20 : y179.length + y170.length < 140737488355328
                                    · rw [if_pos c20] at H
                                      have LMc20 := Aside0.mk c20
                                      clear c20
                                      obtain ⟨y182, hy182⟩ : ∃ y_ : List Int, y_ = (y179 ++ y170) := ⟨_, rfl⟩
                                      replace H : (if x4_1.length < 5864062014805 then (lictorref07_Scan.l0 kj7 l0 (x4_1 ++ [y182]) (wrap64 ((wrap64 (x5_1 + (wrap64 ((wrap64 (rd l0 x5_1)) + (wrap64 (256 * (wrap64 (rd l0 (ji5))))))))) + 6))) else (none)) = some (r1, r2) := by first | (rw [hy182]; with_reducible exact H) | (have H2_ := (Option.bind_some _ _).symm.trans H; rw [hy182]; with_reducible exact H2_) | (have H2_ := (Option.bind_some _ _).symm.trans H; with_reducible exact H2_) | with_reducible exact H | (rw [hy182]; exact H) | exact H
                                      have Ny182 := Aside0.mk hy182
                                      clear hy182
                                      by_cases c21 : x4_1.length < 5864062014805
                                      · rw [if_pos c21] at H
                                        have LMc21 := Aside0.mk c21
                                        clear c21
                                        obtain ⟨y185, hy185⟩ : ∃ y_ : List (List Int), y_ = (x4_1 ++ [y182]) := ⟨_, rfl⟩
                                        replace H : (lictorref07_Scan.l0 kj7 l0 y185 (wrap64 ((wrap64 (x5_1 + (wrap64 ((wrap64 (rd l0 x5_1)) + (wrap64 (256 * (wrap64 (rd l0 (ji5))))))))) + 6))) = some (r1, r2) := by first | (rw [hy185]; with_reducible exact H) | (have H2_ := (Option.bind_some _ _).symm.trans H; rw [hy185]; with_reducible exact H2_) | (have H2_ := (Option.bind_some _ _).symm.trans H; with_reducible exact H2_) | with_reducible exact H | (rw [hy185]; exact H) | exact H
                                        have Ny185 := Aside0.mk hy185
                                        clear hy185
                                        have H' := Aside0.mk H
                                        clear H
                                        have q22 : ((wrap64 ((ji11) + (wrap64 ((wrap64 (rd l0 x5_1)) + (wrap64 (256 * (wrap64 (rd l0 (ji5))))))))) : Int) ≤ ((l0.length : Int) : Int) := of_decide_eq_true (by first | (with_reducible assumption) | assumption)
                                        obtain ⟨i022, hi022, _, hsz22, _⟩ := info_parts info5
                                        have hroom22 : l0.length ≤ c0 := HC0.out
                                        have hC22 : Kd.C (Kd.int .u8) _ (some ad168) l0.length l0 := HR0.out
                                        have ql22 : ((ji11) : Int) ≤ ((wrap64 ((ji11) + (wrap64 ((wrap64 (rd l0 x5_1)) + (wrap64 (256 * (wrap64 (rd l0 (ji5))))))))) : Int) := of_decide_eq_true (by first | (with_reducible assumption) | assumption)
                                        have q022 : (0 : Int) ≤ ((ji11) : Int) := of_decide_eq_true (by first | (with_reducible assumption) | assumption)
                                        have hcut22 := cut_mid (P := Try.prog) 22 5 .i64 .i64 Try.underlying22 hi022 1 hsz22 (some ad168) l0.length c0 (ji11) (wrap64 ((ji11) + (wrap64 ((wrap64 (rd l0 x5_1)) + (wrap64 (256 * (wrap64 (rd l0 (ji5))))))))) q022 ql22 q22 hroom22
                                        have hr22 := Kd.C_mid (lo := ((ji11) : Int).toNat) (hi := ((wrap64 ((ji11) + (wrap64 ((wrap64 (rd l0 x5_1)) + (wrap64 (256 * (wrap64 (rd l0 (ji5))))))))) : Int).toNat) (c := c0) hC22 (by omega) (by omega) hroom22
                                        obtain ⟨A22, hA22⟩ : ∃ A1, A1 = (if c0 = ((ji11) : Int).toNat then (some ad168) else ((some ad168) : Option Addr).map (·.add (((ji11) : Int).toNat * 1))) := ⟨_, rfl⟩
                                        obtain ⟨c22, hc22⟩ : ∃ c1, c1 = c0 - ((ji11) : Int).toNat := ⟨_, rfl⟩
                                        have hy22 : y170.length = ((wrap64 ((ji11) + (wrap64 ((wrap64 (rd l0 x5_1)) + (wrap64 (256 * (wrap64 (rd l0 (ji5))))))))) : Int).toNat - ((ji11) : Int).toNat := (by rw [Ny170.out, List.length_drop, List.length_take] <;> omega)
                                        rw [show ((l0).take ((wrap64 ((ji11) + (wrap64 ((wrap64 (rd l0 x5_1)) + (wrap64 (256 * (wrap64 (rd l0 (ji5))))))))) : Int).toNat).drop ((ji11) : Int).toNat = y170 from Ny170.out.symm] at hr22
                                        replace hr22 : Kd.C (Kd.int .u8) _ A22 y170.length y170 := (by rw [hA22]; exact hr22)
                                        rw [← hy22, ← hA22, ← hc22] at hcut22
                                        have HR173 := Aside0.mk hr22
                                        have HC173 := Aside0.mk (show y170.length ≤ c22 from by rw [hy22, hc22]; exact Nat.sub_le_sub_right (Nat.le_trans (by omega) hroom22) _)
                                        clear hr22 hC22 hroom22 hi022 hsz22 hc22
                                        have KY22 := Aside0.mk hy22
                                        have KA22 := Aside0.mk hA22
                                        clear hy22 hA22
                                        replace q22 := eq_true q22
                                        go_wp2_with (first | (go_at_call 6; (with_reducible refine (lictorref07_Wrap.calls kj7 _ _ y170 t174 t175 _ ?side1 ?side2 A15.out).mono ?_); (case side1 => repeat (first | exact (Kd.C_below HR173.out HB.out) | (with_reducible refine Kd.C_alloc ?_ _) | (with_reducible refine Kd.C_drewN ?_ _) | (with_reducible refine Kd.C_drew ?_))); (case side2 => exact HC173.out); rintro e w23 ⟨v176, rfl, ho0, hb⟩; have n0_ := Aside0.mk (Kd.S_elder' (by (with_reducible repeat (first | apply Kd.S_alloc | apply Kd.S_drewN | apply Kd.S_drew)); exact HO_4.out) (Kd.R_base ho0) hb); have n1_ := Aside0.mk (Kd.R_lower ho0 (below_size (by repeat (first | (with_reducible first | exact HB.out | apply below_alloc | apply pw_below_drewN | apply below_drew1) | exact HB.out)))); have n2_ := Aside0.mk (below_step (by repeat (first | (with_reducible first | exact HB.out | apply below_alloc | apply pw_below_drewN | apply below_drew1) | exact HB.out)) hb); clear HO_4; clear HB; have HO_4 := n0_; have HO177 := n1_; have HB := n2_; clear n0_ n1_ n2_; (try clear hb); (try clear hb2); (try clear hk); (try clear hi); (try clear ho0); have hcv24 := own_string (P := Try.prog) Try.underlying22 Try.underlying5 Try.underlying9 (Kd.own_of_R HO177.out); have hcv24d := fun m_ => own_string (P := Try.prog) Try.underlying22 Try.underlying5 Try.underlying9 (pw_own_drewN (Kd.own_of_R HO177.out) m_); have hcv24e := fun m_ n_ => own_string (P := Try.prog) Try.underlying22 Try.underlying5 Try.underlying9 (pw_own_drewN (pw_own_drewN (Kd.own_of_R HO177.out) m_) n_); obtain ⟨i025, hi025, _, hsz25, _⟩ := info_parts info5; obtain ⟨A25, hcut25, hA25, hC25⟩ := print_mid_of (P := Try.prog) (Value.int .u8) 0 22 5 .i64 .i64 Try.underlying22 hi025 hsz25 (some ad168) c0 l0 x5_1 (wrap64 ((wrap64 (x5_1 + (wrap64 ((wrap64 (rd l0 x5_1)) + (wrap64 (256 * (wrap64 (rd l0 (ji5))))))))) + 6)) (of_decide_eq_true (by first | (with_reducible assumption) | assumption)) (by first | omega | exact of_decide_eq_true (by first | (with_reducible assumption) | assumption)) (of_decide_eq_true (by first | (with_reducible assumption) | assumption)) HC0.out; have HR178 := Aside0.mk (Kd.C_of_reads (h1 := fun _ => rfl) (hA25 _ (Kd.reads_of_C HR0.out))); have HC178 := Aside0.mk hC25; clear hA25 hC25 hi025 hsz25; have hcv26 := Kd.C_string (P := Try.prog) (A := A25) (c := (c0 - x5_1.toNat)) Try.underlying22 Try.underlying5 Try.underlying9 (Kd.C_below HR178.out HB.out); have hcv26d := fun m_ => Kd.C_string (P := Try.prog) (A := A25) (c := (c0 - x5_1.toNat)) Try.underlying22 Try.underlying5 Try.underlying9 (Kd.C_drewN (Kd.C_below HR178.out HB.out) m_); have hcv26e := fun m_ n_ => Kd.C_string (P := Try.prog) (A := A25) (c := (c0 - x5_1.toNat)) Try.underlying22 Try.underlying5 Try.underlying9 (Kd.C_drewN (Kd.C_drewN (Kd.C_below HR178.out HB.out) m_) n_); (try (have hcv26s := hcv26; simp only [show ((l0.take ((wrap64 ((wrap64 (x5_1 + (wrap64 ((wrap64 (rd l0 x5_1)) + (wrap64 (256 * (wrap64 (rd l0 (ji5))))))))) + 6)) : Int).toNat).drop (x5_1 : Int).toNat).length = ((wrap64 ((wrap64 (x5_1 + (wrap64 ((wrap64 (rd l0 x5_1)) + (wrap64 (256 * (wrap64 (rd l0 (ji5))))))))) + 6)).toNat - x5_1.toNat) from (by rw [List.length_drop, List.length_take]; have h_ : ((wrap64 ((wrap64 (x5_1 + (wrap64 ((wrap64 (rd l0 x5_1)) + (wrap64 (256 * (wrap64 (rd l0 (ji5))))))))) + 6)) : Int) ≤ (l0.length : Int) := of_decide_eq_true (by first | (with_reducible assumption) | assumption); omega)] at hcv26s)); (try (have hcv26ds := hcv26d; simp only [show ((l0.take ((wrap64 ((wrap64 (x5_1 + (wrap64 ((wrap64 (rd l0 x5_1)) + (wrap64 (256 * (wrap64 (rd l0 (ji5))))))))) + 6)) : Int).toNat).drop (x5_1 : Int).toNat).length = ((wrap64 ((wrap64 (x5_1 + (wrap64 ((wrap64 (rd l0 x5_1)) + (wrap64 (256 * (wrap64 (rd l0 (ji5))))))))) + 6)).toNat - x5_1.toNat) from (by rw [List.length_drop, List.length_take]; have h_ : ((wrap64 ((wrap64 (x5_1 + (wrap64 ((wrap64 (rd l0 x5_1)) + (wrap64 (256 * (wrap64 (rd l0 (ji5))))))))) + 6)) : Int) ≤ (l0.length : Int) := of_decide_eq_true (by first | (with_reducible assumption) | assumption); omega)] at hcv26ds)); (try (have hcv26es := hcv26e; simp only [show ((l0.take ((wrap64 ((wrap64 (x5_1 + (wrap64 ((wrap64 (rd l0 x5_1)) + (wrap64 (256 * (wrap64 (rd l0 (ji5))))))))) + 6)) : Int).toNat).drop (x5_1 : Int).toNat).length = ((wrap64 ((wrap64 (x5_1 + (wrap64 ((wrap64 (rd l0 x5_1)) + (wrap64 (256 * (wrap64 (rd l0 (ji5))))))))) + 6)).toNat - x5_1.toNat) from (by rw [List.length_drop, List.length_take]; have h_ : ((wrap64 ((wrap64 (x5_1 + (wrap64 ((wrap64 (rd l0 x5_1)) + (wrap64 (256 * (wrap64 (rd l0 (ji5))))))))) + 6)) : Int) ≤ (l0.length : Int) := of_decide_eq_true (by first | (with_reducible assumption) | assumption); omega)] at hcv26es))) | ((with_reducible refine gate_dst (N := 68) rfl ?_); (try (refine gate_guard (by rfl) ?_; dsimp only)); refine Kd.R_lit (Kd.int .u8) _ 5 ?hg (N := 68) ?hd (xs := ([] : List Int)) (inner := []) (ok := fun _ => True) (okp := fun _ => True) ?hr ?hp (fun _ hk => hk) trivial (Below.refl _ _) (Nat.le_refl _) (by simp) ?_; (case hd => rfl); (case hg => rfl); (case hr => first | (go_simp; done) | (go_simp; rfl)); (case hp => exact (Reps.none _ _)); intro v180 w27 ho28 hb hg_ hnew_; clear hg_ hnew_; (first | rw [← Ny179.out] at ho28 | (simp only [Int.reduceToNat] at ho28; rw [← Ny179.out] at ho28)); have n0_ := Aside0.mk (Kd.S_elder' (by (with_reducible repeat (first | apply Kd.S_alloc | apply Kd.S_drewN | apply Kd.S_drew)); exact HO_4.out) (Kd.R_base ho28) hb); have n1_ := Aside0.mk (Kd.R_elder' (by (with_reducible repeat (first | apply Kd.R_alloc | apply Kd.R_drewN | apply Kd.R_drew)); exact HO177.out) (Kd.R_base ho28) hb); have n2_ := Aside0.mk (Kd.R_lower (Kd.R_new' ho28 (Kd.R_lt (by (with_reducible repeat (first | apply Kd.R_alloc | apply Kd.R_drewN | apply Kd.R_drew)); exact HO177.out))) (below_size (by repeat (first | (with_reducible first | exact HB.out | apply below_alloc | apply pw_below_drewN | apply below_drew1) | exact HB.out)))); have n3_ := Aside0.mk (below_step (by repeat (first | (with_reducible first | exact HB.out | apply below_alloc | apply pw_below_drewN | apply below_drew1) | exact HB.out)) hb); clear HO_4; clear HO177; clear HB; have HO_4 := n0_; have HO177 := n1_; have HO181 := n2_; have HB := n3_; clear n0_ n1_ n2_ n3_; clear hb ho28) | ((with_reducible refine gate_builtin (b := .append) (xs := #[.tmp 68, .tmp 69]) rfl ?_); (try (refine gate_guard (by rfl) ?_; dsimp only)); at_builtin; refine Kd.R_append_rows (Kd.int .u8) (w0 := w) w.heap.size rfl (.tmp 68) (.tmp 69) 22 5 (.int .u8 0) 1 rfl Try.underlying22 info5 rfl (by decide) (by omega) v180 y179 y170 _ _ _ (fun k_ => some k_ ≠ (v176 : Value).ownBlock) (fun _ => False) rfl rfl ?aO ?aR (fun _ _ h => h) (fun _ h => h.elim) ?aF ?aB ?aS ?aL ?_; (case aR => repeat (first | exact (Kd.C_below HR173.out HB.out) | (with_reducible refine Kd.C_alloc ?_ _) | (with_reducible refine Kd.C_drewN ?_ _) | (with_reducible refine Kd.C_drew ?_))); (case aB => exact (by repeat (first | (with_reducible first | exact HB.out | apply below_alloc | apply pw_below_drewN | apply below_drew1) | exact HB.out))); (case aF => exact (fun k_ hk => Kd.fresh' (Kd.R_lt (by (with_reducible repeat (first | apply Kd.R_alloc | apply Kd.R_drewN | apply Kd.R_drew)); exact HO177.out)) k_ hk)); (case aO => exact (by (with_reducible repeat (first | apply Kd.R_alloc | apply Kd.R_drewN | apply Kd.R_drew)); exact Kd.R_mono HO181.out (fun _ hk => hk.2))); (case aS => exact (below_size (by repeat (first | (with_reducible first | exact HB.out | apply below_alloc | apply pw_below_drewN | apply below_drew1) | exact HB.out)))); (case aL => have := LMc20.out; omega); intro v183 w29 ho hb hg hat; rw [← Ny182.out] at ho; have n0_ := Aside0.mk (Kd.S_after (ok := (fun k_ => some k_ ≠ (v176 : Value).ownBlock)) (by (with_reducible repeat (first | apply Kd.S_alloc | apply Kd.S_drewN | apply Kd.S_drew)); exact Kd.S_mono HO_4.out (fun _ hk => ⟨hk.1.2, hk.2⟩)) hg hat); have n1_ := Aside0.mk (Kd.R_after (ok := (fun _ => True)) (by (with_reducible repeat (first | apply Kd.R_alloc | apply Kd.R_drewN | apply Kd.R_drew)); exact HO177.out) hg hat); have n2_ := Aside0.mk (hb); have n3_ := Aside0.mk (ho); clear HO_4; clear HO177; clear HB; clear HO181; have HO_4 := n0_; have HO177 := n1_; have HB := n2_; have HO184 := n3_; clear n0_ n1_ n2_ n3_; clear ho hb hg hat; obtain ⟨Ao31, co31, eo31⟩ := Kd.R_slice HO184.out; subst eo31) | ((with_reducible refine gate_builtin (b := .append) (xs := #[.tmp 67, .tmp 71]) rfl ?_); (try (refine gate_guard (by rfl) ?_; dsimp only)); at_builtin; refine Kd.S_append (Kd.slice 5 (Kd.int .u8)) (w0 := w) w.heap.size rfl (.tmp 67) (.tmp 71) 27 22 (.slice none 0 0) 24 rfl Try.underlying27 info22 rfl (by decide) (by omega) u4 x4_1 y182 [.slice Ao31 y182.length co31] (fun k_ => some k_ ≠ (v176 : Value).ownBlock) (fun k_ => some k_ = (.slice Ao31 y182.length co31 : Value).ownBlock) rfl rfl ?aP (fun k_ hk_ => ((Kd.R_mono (ok' := fun k_ => ((fun k_ => some k_ ≠ (v176 : Value).ownBlock)) k_ ∧ some k_ ≠ (u4 : Value).ownBlock) (Kd.R_apart' (HO184.out) (Kd.S_typed HO_4.out) (by decide)) (fun k_ hk => ⟨hk.1, hk.2⟩))).1 k_ hk_.symm) ?aF ?aO ?aB ?aS ?aL ?_; (case aP => exact Kd.M_row (Kd.R_mono (Kd.R_tight rfl (Kd.R_mono (ok' := fun k_ => ((fun k_ => some k_ ≠ (v176 : Value).ownBlock)) k_ ∧ some k_ ≠ (u4 : Value).ownBlock) (Kd.R_apart' (HO184.out) (Kd.S_typed HO_4.out) (by decide)) (fun k_ hk => ⟨hk.1, hk.2⟩))) (fun _ h_ => h_))); (case aB => exact (by repeat (first | (with_reducible first | exact HB.out | apply below_alloc | apply pw_below_drewN | apply below_drew1) | exact HB.out))); (case aF => exact (fun k_ hk => Kd.fresh' (Kd.R_lt (by (with_reducible repeat (first | apply Kd.R_alloc | apply Kd.R_drewN | apply Kd.R_drew)); exact HO177.out)) k_ hk)); (case aO => exact (by (with_reducible repeat (first | apply Kd.S_alloc | apply Kd.S_drewN | apply Kd.S_drew)); exact Kd.S_mono HO_4.out (fun k_ hk => ⟨hk.1, fun e_ => hk.2 e_⟩))); (case aS => exact (below_size (by repeat (first | (with_reducible first | exact HB.out | apply below_alloc | apply pw_below_drewN | apply below_drew1) | exact HB.out)))); (case aL => have := LMc21.out; omega); intro v186 w30 ho hb hg hat; rw [← Ny185.out] at ho; have n0_ := Aside0.mk (Kd.R_over' (by (with_reducible repeat (first | apply Kd.R_alloc | apply Kd.R_drewN | apply Kd.R_drew)); exact HO177.out) (Kd.S_typed (by (with_reducible repeat (first | apply Kd.S_alloc | apply Kd.S_drewN | apply Kd.S_drew)); exact HO_4.out)) (by decide) hg); have n1_ := Aside0.mk (hb); have n2_ := Aside0.mk (ho); clear HO177; clear HB; clear HO_4; clear HO184; have HO177 := n0_; have HB := n1_; have HO187 := n2_; clear n0_ n1_ n2_; clear ho hb hg hat))
                                        repeat (go_quiet (first | (go_at_call 6; (with_reducible refine (lictorref07_Wrap.calls kj7 _ _ y170 t174 t175 _ ?side1 ?side2 A15.out).mono ?_); (case side1 => repeat (first | exact (Kd.C_below HR173.out HB.out) | (with_reducible refine Kd.C_alloc ?_ _) | (with_reducible refine Kd.C_drewN ?_ _) | (with_reducible refine Kd.C_drew ?_))); (case side2 => exact HC173.out); rintro e w23 ⟨v176, rfl, ho0, hb⟩; have n0_ := Aside0.mk (Kd.S_elder' (by (with_reducible repeat (first | apply Kd.S_alloc | apply Kd.S_drewN | apply Kd.S_drew)); exact HO_4.out) (Kd.R_base ho0) hb); have n1_ := Aside0.mk (Kd.R_lower ho0 (below_size (by repeat (first | (with_reducible first | exact HB.out | apply below_alloc | apply pw_below_drewN | apply below_drew1) | exact HB.out)))); have n2_ := Aside0.mk (below_step (by repeat (first | (with_reducible first | exact HB.out | apply below_alloc | apply pw_below_drewN | apply below_drew1) | exact HB.out)) hb); clear HO_4; clear HB; have HO_4 := n0_; have HO177 := n1_; have HB := n2_; clear n0_ n1_ n2_; (try clear hb); (try clear hb2); (try clear hk); (try clear hi); (try clear ho0); have hcv24 := own_string (P := Try.prog) Try.underlying22 Try.underlying5 Try.underlying9 (Kd.own_of_R HO177.out); have hcv24d := fun m_ => own_string (P := Try.prog) Try.underlying22 Try.underlying5 Try.underlying9 (pw_own_drewN (Kd.own_of_R HO177.out) m_); have hcv24e := fun m_ n_ => own_string (P := Try.prog) Try.underlying22 Try.underlying5 Try.underlying9 (pw_own_drewN (pw_own_drewN (Kd.own_of_R HO177.out) m_) n_); obtain ⟨i025, hi025, _, hsz25, _⟩ := info_parts info5; obtain ⟨A25, hcut25, hA25, hC25⟩ := print_mid_of (P := Try.prog) (Value.int .u8) 0 22 5 .i64 .i64 Try.underlying22 hi025 hsz25 (some ad168) c0 l0 x5_1 (wrap64 ((wrap64 (x5_1 + (wrap64 ((wrap64 (rd l0 x5_1)) + (wrap64 (256 * (wrap64 (rd l0 (ji5))))))))) + 6)) (of_decide_eq_true (by first | (with_reducible assumption) | assumption)) (by first | omega | exact of_decide_eq_true (by first | (with_reducible assumption) | assumption)) (of_decide_eq_true (by first | (with_reducible assumption) | assumption)) HC0.out; have HR178 := Aside0.mk (Kd.C_of_reads (h1 := fun _ => rfl) (hA25 _ (Kd.reads_of_C HR0.out))); have HC178 := Aside0.mk hC25; clear hA25 hC25 hi025 hsz25; have hcv26 := Kd.C_string (P := Try.prog) (A := A25) (c := (c0 - x5_1.toNat)) Try.underlying22 Try.underlying5 Try.underlying9 (Kd.C_below HR178.out HB.out); have hcv26d := fun m_ => Kd.C_string (P := Try.prog) (A := A25) (c := (c0 - x5_1.toNat)) Try.underlying22 Try.underlying5 Try.underlying9 (Kd.C_drewN (Kd.C_below HR178.out HB.out) m_); have hcv26e := fun m_ n_ => Kd.C_string (P := Try.prog) (A := A25) (c := (c0 - x5_1.toNat)) Try.underlying22 Try.underlying5 Try.underlying9 (Kd.C_drewN (Kd.C_drewN (Kd.C_below HR178.out HB.out) m_) n_); (try (have hcv26s := hcv26; simp only [show ((l0.take ((wrap64 ((wrap64 (x5_1 + (wrap64 ((wrap64 (rd l0 x5_1)) + (wrap64 (256 * (wrap64 (rd l0 (ji5))))))))) + 6)) : Int).toNat).drop (x5_1 : Int).toNat).length = ((wrap64 ((wrap64 (x5_1 + (wrap64 ((wrap64 (rd l0 x5_1)) + (wrap64 (256 * (wrap64 (rd l0 (ji5))))))))) + 6)).toNat - x5_1.toNat) from (by rw [List.length_drop, List.length_take]; have h_ : ((wrap64 ((wrap64 (x5_1 + (wrap64 ((wrap64 (rd l0 x5_1)) + (wrap64 (256 * (wrap64 (rd l0 (ji5))))))))) + 6)) : Int) ≤ (l0.length : Int) := of_decide_eq_true (by first | (with_reducible assumption) | assumption); omega)] at hcv26s)); (try (have hcv26ds := hcv26d; simp only [show ((l0.take ((wrap64 ((wrap64 (x5_1 + (wrap64 ((wrap64 (rd l0 x5_1)) + (wrap64 (256 * (wrap64 (rd l0 (ji5))))))))) + 6)) : Int).toNat).drop (x5_1 : Int).toNat).length = ((wrap64 ((wrap64 (x5_1 + (wrap64 ((wrap64 (rd l0 x5_1)) + (wrap64 (256 * (wrap64 (rd l0 (ji5))))))))) + 6)).toNat - x5_1.toNat) from (by rw [List.length_drop, List.length_take]; have h_ : ((wrap64 ((wrap64 (x5_1 + (wrap64 ((wrap64 (rd l0 x5_1)) + (wrap64 (256 * (wrap64 (rd l0 (ji5))))))))) + 6)) : Int) ≤ (l0.length : Int) := of_decide_eq_true (by first | (with_reducible assumption) | assumption); omega)] at hcv26ds)); (try (have hcv26es := hcv26e; simp only [show ((l0.take ((wrap64 ((wrap64 (x5_1 + (wrap64 ((wrap64 (rd l0 x5_1)) + (wrap64 (256 * (wrap64 (rd l0 (ji5))))))))) + 6)) : Int).toNat).drop (x5_1 : Int).toNat).length = ((wrap64 ((wrap64 (x5_1 + (wrap64 ((wrap64 (rd l0 x5_1)) + (wrap64 (256 * (wrap64 (rd l0 (ji5))))))))) + 6)).toNat - x5_1.toNat) from (by rw [List.length_drop, List.length_take]; have h_ : ((wrap64 ((wrap64 (x5_1 + (wrap64 ((wrap64 (rd l0 x5_1)) + (wrap64 (256 * (wrap64 (rd l0 (ji5))))))))) + 6)) : Int) ≤ (l0.length : Int) := of_decide_eq_true (by first | (with_reducible assumption) | assumption); omega)] at hcv26es))) | ((with_reducible refine gate_dst (N := 68) rfl ?_); (try (refine gate_guard (by rfl) ?_; dsimp only)); refine Kd.R_lit (Kd.int .u8) _ 5 ?hg (N := 68) ?hd (xs := ([] : List Int)) (inner := []) (ok := fun _ => True) (okp := fun _ => True) ?hr ?hp (fun _ hk => hk) trivial (Below.refl _ _) (Nat.le_refl _) (by simp) ?_; (case hd => rfl); (case hg => rfl); (case hr => first | (go_simp; done) | (go_simp; rfl)); (case hp => exact (Reps.none _ _)); intro v180 w27 ho28 hb hg_ hnew_; clear hg_ hnew_; (first | rw [← Ny179.out] at ho28 | (simp only [Int.reduceToNat] at ho28; rw [← Ny179.out] at ho28)); have n0_ := Aside0.mk (Kd.S_elder' (by (with_reducible repeat (first | apply Kd.S_alloc | apply Kd.S_drewN | apply Kd.S_drew)); exact HO_4.out) (Kd.R_base ho28) hb); have n1_ := Aside0.mk (Kd.R_elder' (by (with_reducible repeat (first | apply Kd.R_alloc | apply Kd.R_drewN | apply Kd.R_drew)); exact HO177.out) (Kd.R_base ho28) hb); have n2_ := Aside0.mk (Kd.R_lower (Kd.R_new' ho28 (Kd.R_lt (by (with_reducible repeat (first | apply Kd.R_alloc | apply Kd.R_drewN | apply Kd.R_drew)); exact HO177.out))) (below_size (by repeat (first | (with_reducible first | exact HB.out | apply below_alloc | apply pw_below_drewN | apply below_drew1) | exact HB.out)))); have n3_ := Aside0.mk (below_step (by repeat (first | (with_reducible first | exact HB.out | apply below_alloc | apply pw_below_drewN | apply below_drew1) | exact HB.out)) hb); clear HO_4; clear HO177; clear HB; have HO_4 := n0_; have HO177 := n1_; have HO181 := n2_; have HB := n3_; clear n0_ n1_ n2_ n3_; clear hb ho28) | ((with_reducible refine gate_builtin (b := .append) (xs := #[.tmp 68, .tmp 69]) rfl ?_); (try (refine gate_guard (by rfl) ?_; dsimp only)); at_builtin; refine Kd.R_append_rows (Kd.int .u8) (w0 := w) w.heap.size rfl (.tmp 68) (.tmp 69) 22 5 (.int .u8 0) 1 rfl Try.underlying22 info5 rfl (by decide) (by omega) v180 y179 y170 _ _ _ (fun k_ => some k_ ≠ (v176 : Value).ownBlock) (fun _ => False) rfl rfl ?aO ?aR (fun _ _ h => h) (fun _ h => h.elim) ?aF ?aB ?aS ?aL ?_; (case aR => repeat (first | exact (Kd.C_below HR173.out HB.out) | (with_reducible refine Kd.C_alloc ?_ _) | (with_reducible refine Kd.C_drewN ?_ _) | (with_reducible refine Kd.C_drew ?_))); (case aB => exact (by repeat (first | (with_reducible first | exact HB.out | apply below_alloc | apply pw_below_drewN | apply below_drew1) | exact HB.out))); (case aF => exact (fun k_ hk => Kd.fresh' (Kd.R_lt (by (with_reducible repeat (first | apply Kd.R_alloc | apply Kd.R_drewN | apply Kd.R_drew)); exact HO177.out)) k_ hk)); (case aO => exact (by (with_reducible repeat (first | apply Kd.R_alloc | apply Kd.R_drewN | apply Kd.R_drew)); exact Kd.R_mono HO181.out (fun _ hk => hk.2))); (case aS => exact (below_size (by repeat (first | (with_reducible first | exact HB.out | apply below_alloc | apply pw_below_drewN | apply below_drew1) | exact HB.out)))); (case aL => have := LMc20.out; omega); intro v183 w29 ho hb hg hat; rw [← Ny182.out] at ho; have n0_ := Aside0.mk (Kd.S_after (ok := (fun k_ => some k_ ≠ (v176 : Value).ownBlock)) (by (with_reducible repeat (first | apply Kd.S_alloc | apply Kd.S_drewN | apply Kd.S_drew)); exact Kd.S_mono HO_4.out (fun _ hk => ⟨hk.1.2, hk.2⟩)) hg hat); have n1_ := Aside0.mk (Kd.R_after (ok := (fun _ => True)) (by (with_reducible repeat (first | apply Kd.R_alloc | apply Kd.R_drewN | apply Kd.R_drew)); exact HO177.out) hg hat); have n2_ := Aside0.mk (hb); have n3_ := Aside0.mk (ho); clear HO_4; clear HO177; clear HB; clear HO181; have HO_4 := n0_; have HO177 := n1_; have HB := n2_; have HO184 := n3_; clear n0_ n1_ n2_ n3_; clear ho hb hg hat; obtain ⟨Ao31, co31, eo31⟩ := Kd.R_slice HO184.out; subst eo31) | ((with_reducible refine gate_builtin (b := .append) (xs := #[.tmp 67, .tmp 71]) rfl ?_); (try (refine gate_guard (by rfl) ?_; dsimp only)); at_builtin; refine Kd.S_append (Kd.slice 5 (Kd.int .u8)) (w0 := w) w.heap.size rfl (.tmp 67) (.tmp 71) 27 22 (.slice none 0 0) 24 rfl Try.underlying27 info22 rfl (by decide) (by omega) u4 x4_1 y182 [.slice Ao31 y182.length co31] (fun k_ => some k_ ≠ (v176 : Value).ownBlock) (fun k_ => some k_ = (.slice Ao31 y182.length co31 : Value).ownBlock) rfl rfl ?aP (fun k_ hk_ => ((Kd.R_mono (ok' := fun k_ => ((fun k_ => some k_ ≠ (v176 : Value).ownBlock)) k_ ∧ some k_ ≠ (u4 : Value).ownBlock) (Kd.R_apart' (HO184.out) (Kd.S_typed HO_4.out) (by decide)) (fun k_ hk => ⟨hk.1, hk.2⟩))).1 k_ hk_.symm) ?aF ?aO ?aB ?aS ?aL ?_; (case aP => exact Kd.M_row (Kd.R_mono (Kd.R_tight rfl (Kd.R_mono (ok' := fun k_ => ((fun k_ => some k_ ≠ (v176 : Value).ownBlock)) k_ ∧ some k_ ≠ (u4 : Value).ownBlock) (Kd.R_apart' (HO184.out) (Kd.S_typed HO_4.out) (by decide)) (fun k_ hk => ⟨hk.1, hk.2⟩))) (fun _ h_ => h_))); (case aB => exact (by repeat (first | (with_reducible first | exact HB.out | apply below_alloc | apply pw_below_drewN | apply below_drew1) | exact HB.out))); (case aF => exact (fun k_ hk => Kd.fresh' (Kd.R_lt (by (with_reducible repeat (first | apply Kd.R_alloc | apply Kd.R_drewN | apply Kd.R_drew)); exact HO177.out)) k_ hk)); (case aO => exact (by (with_reducible repeat (first | apply Kd.S_alloc | apply Kd.S_drewN | apply Kd.S_drew)); exact Kd.S_mono HO_4.out (fun k_ hk => ⟨hk.1, fun e_ => hk.2 e_⟩))); (case aS => exact (below_size (by repeat (first | (with_reducible first | exact HB.out | apply below_alloc | apply pw_below_drewN | apply below_drew1) | exact HB.out)))); (case aL => have := LMc21.out; omega); intro v186 w30 ho hb hg hat; rw [← Ny185.out] at ho; have n0_ := Aside0.mk (Kd.R_over' (by (with_reducible repeat (first | apply Kd.R_alloc | apply Kd.R_drewN | apply Kd.R_drew)); exact HO177.out) (Kd.S_typed (by (with_reducible repeat (first | apply Kd.S_alloc | apply Kd.S_drewN | apply Kd.S_drew)); exact HO_4.out)) (by decide) hg); have n1_ := Aside0.mk (hb); have n2_ := Aside0.mk (ho); clear HO177; clear HB; clear HO_4; clear HO184; have HO177 := n0_; have HB := n1_; have HO187 := n2_; clear n0_ n1_ n2_; clear ho hb hg hat)); try go_wp2_with (first | (go_at_call 6; (with_reducible refine (lictorref07_Wrap.calls kj7 _ _ y170 t174 t175 _ ?side1 ?side2 A15.out).mono ?_); (case side1 => repeat (first | exact (Kd.C_below HR173.out HB.out) | (with_reducible refine Kd.C_alloc ?_ _) | (with_reducible refine Kd.C_drewN ?_ _) | (with_reducible refine Kd.C_drew ?_))); (case side2 => exact HC173.out); rintro e w23 ⟨v176, rfl, ho0, hb⟩; have n0_ := Aside0.mk (Kd.S_elder' (by (with_reducible repeat (first | apply Kd.S_alloc | apply Kd.S_drewN | apply Kd.S_drew)); exact HO_4.out) (Kd.R_base ho0) hb); have n1_ := Aside0.mk (Kd.R_lower ho0 (below_size (by repeat (first | (with_reducible first | exact HB.out | apply below_alloc | apply pw_below_drewN | apply below_drew1) | exact HB.out)))); have n2_ := Aside0.mk (below_step (by repeat (first | (with_reducible first | exact HB.out | apply below_alloc | apply pw_below_drewN | apply below_drew1) | exact HB.out)) hb); clear HO_4; clear HB; have HO_4 := n0_; have HO177 := n1_; have HB := n2_; clear n0_ n1_ n2_; (try clear hb); (try clear hb2); (try clear hk); (try clear hi); (try clear ho0); have hcv24 := own_string (P := Try.prog) Try.underlying22 Try.underlying5 Try.underlying9 (Kd.own_of_R HO177.out); have hcv24d := fun m_ => own_string (P := Try.prog) Try.underlying22 Try.underlying5 Try.underlying9 (pw_own_drewN (Kd.own_of_R HO177.out) m_); have hcv24e := fun m_ n_ => own_string (P := Try.prog) Try.underlying22 Try.underlying5 Try.underlying9 (pw_own_drewN (pw_own_drewN (Kd.own_of_R HO177.out) m_) n_); obtain ⟨i025, hi025, _, hsz25, _⟩ := info_parts info5; obtain ⟨A25, hcut25, hA25, hC25⟩ := print_mid_of (P := Try.prog) (Value.int .u8) 0 22 5 .i64 .i64 Try.underlying22 hi025 hsz25 (some ad168) c0 l0 x5_1 (wrap64 ((wrap64 (x5_1 + (wrap64 ((wrap64 (rd l0 x5_1)) + (wrap64 (256 * (wrap64 (rd l0 (ji5))))))))) + 6)) (of_decide_eq_true (by first | (with_reducible assumption) | assumption)) (by first | omega | exact of_decide_eq_true (by first | (with_reducible assumption) | assumption)) (of_decide_eq_true (by first | (with_reducible assumption) | assumption)) HC0.out; have HR178 := Aside0.mk (Kd.C_of_reads (h1 := fun _ => rfl) (hA25 _ (Kd.reads_of_C HR0.out))); have HC178 := Aside0.mk hC25; clear hA25 hC25 hi025 hsz25; have hcv26 := Kd.C_string (P := Try.prog) (A := A25) (c := (c0 - x5_1.toNat)) Try.underlying22 Try.underlying5 Try.underlying9 (Kd.C_below HR178.out HB.out); have hcv26d := fun m_ => Kd.C_string (P := Try.prog) (A := A25) (c := (c0 - x5_1.toNat)) Try.underlying22 Try.underlying5 Try.underlying9 (Kd.C_drewN (Kd.C_below HR178.out HB.out) m_); have hcv26e := fun m_ n_ => Kd.C_string (P := Try.prog) (A := A25) (c := (c0 - x5_1.toNat)) Try.underlying22 Try.underlying5 Try.underlying9 (Kd.C_drewN (Kd.C_drewN (Kd.C_below HR178.out HB.out) m_) n_); (try (have hcv26s := hcv26; simp only [show ((l0.take ((wrap64 ((wrap64 (x5_1 + (wrap64 ((wrap64 (rd l0 x5_1)) + (wrap64 (256 * (wrap64 (rd l0 (ji5))))))))) + 6)) : Int).toNat).drop (x5_1 : Int).toNat).length = ((wrap64 ((wrap64 (x5_1 + (wrap64 ((wrap64 (rd l0 x5_1)) + (wrap64 (256 * (wrap64 (rd l0 (ji5))))))))) + 6)).toNat - x5_1.toNat) from (by rw [List.length_drop, List.length_take]; have h_ : ((wrap64 ((wrap64 (x5_1 + (wrap64 ((wrap64 (rd l0 x5_1)) + (wrap64 (256 * (wrap64 (rd l0 (ji5))))))))) + 6)) : Int) ≤ (l0.length : Int) := of_decide_eq_true (by first | (with_reducible assumption) | assumption); omega)] at hcv26s)); (try (have hcv26ds := hcv26d; simp only [show ((l0.take ((wrap64 ((wrap64 (x5_1 + (wrap64 ((wrap64 (rd l0 x5_1)) + (wrap64 (256 * (wrap64 (rd l0 (ji5))))))))) + 6)) : Int).toNat).drop (x5_1 : Int).toNat).length = ((wrap64 ((wrap64 (x5_1 + (wrap64 ((wrap64 (rd l0 x5_1)) + (wrap64 (256 * (wrap64 (rd l0 (ji5))))))))) + 6)).toNat - x5_1.toNat) from (by rw [List.length_drop, List.length_take]; have h_ : ((wrap64 ((wrap64 (x5_1 + (wrap64 ((wrap64 (rd l0 x5_1)) + (wrap64 (256 * (wrap64 (rd l0 (ji5))))))))) + 6)) : Int) ≤ (l0.length : Int) := of_decide_eq_true (by first | (with_reducible assumption) | assumption); omega)] at hcv26ds)); (try (have hcv26es := hcv26e; simp only [show ((l0.take ((wrap64 ((wrap64 (x5_1 + (wrap64 ((wrap64 (rd l0 x5_1)) + (wrap64 (256 * (wrap64 (rd l0 (ji5))))))))) + 6)) : Int).toNat).drop (x5_1 : Int).toNat).length = ((wrap64 ((wrap64 (x5_1 + (wrap64 ((wrap64 (rd l0 x5_1)) + (wrap64 (256 * (wrap64 (rd l0 (ji5))))))))) + 6)).toNat - x5_1.toNat) from (by rw [List.length_drop, List.length_take]; have h_ : ((wrap64 ((wrap64 (x5_1 + (wrap64 ((wrap64 (rd l0 x5_1)) + (wrap64 (256 * (wrap64 (rd l0 (ji5))))))))) + 6)) : Int) ≤ (l0.length : Int) := of_decide_eq_true (by first | (with_reducible assumption) | assumption); omega)] at hcv26es))) | ((with_reducible refine gate_dst (N := 68) rfl ?_); (try (refine gate_guard (by rfl) ?_; dsimp only)); refine Kd.R_lit (Kd.int .u8) _ 5 ?hg (N := 68) ?hd (xs := ([] : List Int)) (inner := []) (ok := fun _ => True) (okp := fun _ => True) ?hr ?hp (fun _ hk => hk) trivial (Below.refl _ _) (Nat.le_refl _) (by simp) ?_; (case hd => rfl); (case hg => rfl); (case hr => first | (go_simp; done) | (go_simp; rfl)); (case hp => exact (Reps.none _ _)); intro v180 w27 ho28 hb hg_ hnew_; clear hg_ hnew_; (first | rw [← Ny179.out] at ho28 | (simp only [Int.reduceToNat] at ho28; rw [← Ny179.out] at ho28)); have n0_ := Aside0.mk (Kd.S_elder' (by (with_reducible repeat (first | apply Kd.S_alloc | apply Kd.S_drewN | apply Kd.S_drew)); exact HO_4.out) (Kd.R_base ho28) hb); have n1_ := Aside0.mk (Kd.R_elder' (by (with_reducible repeat (first | apply Kd.R_alloc | apply Kd.R_drewN | apply Kd.R_drew)); exact HO177.out) (Kd.R_base ho28) hb); have n2_ := Aside0.mk (Kd.R_lower (Kd.R_new' ho28 (Kd.R_lt (by (with_reducible repeat (first | apply Kd.R_alloc | apply Kd.R_drewN | apply Kd.R_drew)); exact HO177.out))) (below_size (by repeat (first | (with_reducible first | exact HB.out | apply below_alloc | apply pw_below_drewN | apply below_drew1) | exact HB.out)))); have n3_ := Aside0.mk (below_step (by repeat (first | (with_reducible first | exact HB.out | apply below_alloc | apply pw_below_drewN | apply below_drew1) | exact HB.out)) hb); clear HO_4; clear HO177; clear HB; have HO_4 := n0_; have HO177 := n1_; have HO181 := n2_; have HB := n3_; clear n0_ n1_ n2_ n3_; clear hb ho28) | ((with_reducible refine gate_builtin (b := .append) (xs := #[.tmp 68, .tmp 69]) rfl ?_); (try (refine gate_guard (by rfl) ?_; dsimp only)); at_builtin; refine Kd.R_append_rows (Kd.int .u8) (w0 := w) w.heap.size rfl (.tmp 68) (.tmp 69) 22 5 (.int .u8 0) 1 rfl Try.underlying22 info5 rfl (by decide) (by omega) v180 y179 y170 _ _ _ (fun k_ => some k_ ≠ (v176 : Value).ownBlock) (fun _ => False) rfl rfl ?aO ?aR (fun _ _ h => h) (fun _ h => h.elim) ?aF ?aB ?aS ?aL ?_; (case aR => repeat (first | exact (Kd.C_below HR173.out HB.out) | (with_reducible refine Kd.C_alloc ?_ _) | (with_reducible refine Kd.C_drewN ?_ _) | (with_reducible refine Kd.C_drew ?_))); (case aB => exact (by repeat (first | (with_reducible first | exact HB.out | apply below_alloc | apply pw_below_drewN | apply below_drew1) | exact HB.out))); (case aF => exact (fun k_ hk => Kd.fresh' (Kd.R_lt (by (with_reducible repeat (first | apply Kd.R_alloc | apply Kd.R_drewN | apply Kd.R_drew)); exact HO177.out)) k_ hk)); (case aO => exact (by (with_reducible repeat (first | apply Kd.R_alloc | apply Kd.R_drewN | apply Kd.R_drew)); exact Kd.R_mono HO181.out (fun _ hk => hk.2))); (case aS => exact (below_size (by repeat (first | (with_reducible first | exact HB.out | apply below_alloc | apply pw_below_drewN | apply below_drew1) | exact HB.out)))); (case aL => have := LMc20.out; omega); intro v183 w29 ho hb hg hat; rw [← Ny182.out] at ho; have n0_ := Aside0.mk (Kd.S_after (ok := (fun k_ => some k_ ≠ (v176 : Value).ownBlock)) (by (with_reducible repeat (first | apply Kd.S_alloc | apply Kd.S_drewN | apply Kd.S_drew)); exact Kd.S_mono HO_4.out (fun _ hk => ⟨hk.1.2, hk.2⟩)) hg hat); have n1_ := Aside0.mk (Kd.R_after (ok := (fun _ => True)) (by (with_reducible repeat (first | apply Kd.R_alloc | apply Kd.R_drewN | apply Kd.R_drew)); exact HO177.out) hg hat); have n2_ := Aside0.mk (hb); have n3_ := Aside0.mk (ho); clear HO_4; clear HO177; clear HB; clear HO181; have HO_4 := n0_; have HO177 := n1_; have HB := n2_; have HO184 := n3_; clear n0_ n1_ n2_ n3_; clear ho hb hg hat; obtain ⟨Ao31, co31, eo31⟩ := Kd.R_slice HO184.out; subst eo31) | ((with_reducible refine gate_builtin (b := .append) (xs := #[.tmp 67, .tmp 71]) rfl ?_); (try (refine gate_guard (by rfl) ?_; dsimp only)); at_builtin; refine Kd.S_append (Kd.slice 5 (Kd.int .u8)) (w0 := w) w.heap.size rfl (.tmp 67) (.tmp 71) 27 22 (.slice none 0 0) 24 rfl Try.underlying27 info22 rfl (by decide) (by omega) u4 x4_1 y182 [.slice Ao31 y182.length co31] (fun k_ => some k_ ≠ (v176 : Value).ownBlock) (fun k_ => some k_ = (.slice Ao31 y182.length co31 : Value).ownBlock) rfl rfl ?aP (fun k_ hk_ => ((Kd.R_mono (ok' := fun k_ => ((fun k_ => some k_ ≠ (v176 : Value).ownBlock)) k_ ∧ some k_ ≠ (u4 : Value).ownBlock) (Kd.R_apart' (HO184.out) (Kd.S_typed HO_4.out) (by decide)) (fun k_ hk => ⟨hk.1, hk.2⟩))).1 k_ hk_.symm) ?aF ?aO ?aB ?aS ?aL ?_; (case aP => exact Kd.M_row (Kd.R_mono (Kd.R_tight rfl (Kd.R_mono (ok' := fun k_ => ((fun k_ => some k_ ≠ (v176 : Value).ownBlock)) k_ ∧ some k_ ≠ (u4 : Value).ownBlock) (Kd.R_apart' (HO184.out) (Kd.S_typed HO_4.out) (by decide)) (fun k_ hk => ⟨hk.1, hk.2⟩))) (fun _ h_ => h_))); (case aB => exact (by repeat (first | (with_reducible first | exact HB.out | apply below_alloc | apply pw_below_drewN | apply below_drew1) | exact HB.out))); (case aF => exact (fun k_ hk => Kd.fresh' (Kd.R_lt (by (with_reducible repeat (first | apply Kd.R_alloc | apply Kd.R_drewN | apply Kd.R_drew)); exact HO177.out)) k_ hk)); (case aO => exact (by (with_reducible repeat (first | apply Kd.S_alloc | apply Kd.S_drewN | apply Kd.S_drew)); exact Kd.S_mono HO_4.out (fun k_ hk => ⟨hk.1, fun e_ => hk.2 e_⟩))); (case aS => exact (below_size (by repeat (first | (with_reducible first | exact HB.out | apply below_alloc | apply pw_below_drewN | apply below_drew1) | exact HB.out)))); (case aL => have := LMc21.out; omega); intro v186 w30 ho hb hg hat; rw [← Ny185.out] at ho; have n0_ := Aside0.mk (Kd.R_over' (by (with_reducible repeat (first | apply Kd.R_alloc | apply Kd.R_drewN | apply Kd.R_drew)); exact HO177.out) (Kd.S_typed (by (with_reducible repeat (first | apply Kd.S_alloc | apply Kd.S_drewN | apply Kd.S_drew)); exact HO_4.out)) (by decide) hg); have n1_ := Aside0.mk (hb); have n2_ := Aside0.mk (ho); clear HO177; clear HB; clear HO_4; clear HO184; have HO177 := n0_; have HB := n1_; have HO187 := n2_; clear n0_ n1_ n2_; clear ho hb hg hat)))
                                        go_roundg kj7
                                        case measure => have := HK1.out; have := HJ7.out; omega
                                        case rel => exact ⟨(y185), (wrap64 ((wrap64 (x5_1 + (wrap64 ((wrap64 (rd l0 x5_1)) + (wrap64 (256 * (wrap64 (rd l0 (ji5))))))))) + 6)), (by first | rfl | (simp; done) | (simp only [← hji5] <;> (first | rfl | simp)) | (simp [*]; done)), H', ⟨by have := HK1.out; have := HJ7.out; omega⟩, ⟨by (with_reducible repeat (first | apply Kd.S_alloc | apply Kd.S_drewN | apply Kd.S_drew)); exact Kd.S_mono HO187.out (fun _ hk => trivial)⟩, ⟨by repeat (first | (with_reducible first | exact HB.out | apply below_alloc | apply pw_below_drewN | apply below_drew1) | exact HB.out)⟩⟩
                                      · rw [if_neg c21] at H
                                        exact absurd H (by simp)
                                    · rw [if_neg c20] at H
                                      exact absurd H (by simp)
                                  · rw [if_neg c19] at H
                                    have c19b0 : ((strOfNums t174).toList == (strOfNums ((l0.take ((wrap64 ((wrap64 (x5_1 + (wrap64 ((wrap64 (rd l0 x5_1)) + (wrap64 (256 * (wrap64 (rd l0 (ji5))))))))) + 6)) : Int).toNat).drop (x5_1 : Int).toNat)).toList) = false := beq_eq_false_iff_ne.mpr c19
                                    have c19b1 : ((strOfNums t174).toList != (strOfNums ((l0.take ((wrap64 ((wrap64 (x5_1 + (wrap64 ((wrap64 (rd l0 x5_1)) + (wrap64 (256 * (wrap64 (rd l0 (ji5))))))))) + 6)) : Int).toNat).drop (x5_1 : Int).toNat)).toList) = true := bne_iff_ne.mpr c19
                                    simp only [Option.some.injEq, Prod.mk.injEq] at H
                                    obtain ⟨rfl, rfl⟩ := H
                                    have q32 : ((wrap64 ((ji11) + (wrap64 ((wrap64 (rd l0 x5_1)) + (wrap64 (256 * (wrap64 (rd l0 (ji5))))))))) : Int) ≤ ((l0.length : Int) : Int) := of_decide_eq_true (by first | (with_reducible assumption) | assumption)
                                    obtain ⟨i032, hi032, _, hsz32, _⟩ := info_parts info5
                                    have hroom32 : l0.length ≤ c0 := HC0.out
                                    have hC32 : Kd.C (Kd.int .u8) _ (some ad168) l0.length l0 := HR0.out
                                    have ql32 : ((ji11) : Int) ≤ ((wrap64 ((ji11) + (wrap64 ((wrap64 (rd l0 x5_1)) + (wrap64 (256 * (wrap64 (rd l0 (ji5))))))))) : Int) := of_decide_eq_true (by first | (with_reducible assumption) | assumption)
                                    have q032 : (0 : Int) ≤ ((ji11) : Int) := of_decide_eq_true (by first | (with_reducible assumption) | assumption)
                                    have hcut32 := cut_mid (P := Try.prog) 22 5 .i64 .i64 Try.underlying22 hi032 1 hsz32 (some ad168) l0.length c0 (ji11) (wrap64 ((ji11) + (wrap64 ((wrap64 (rd l0 x5_1)) + (wrap64 (256 * (wrap64 (rd l0 (ji5))))))))) q032 ql32 q32 hroom32
                                    have hr32 := Kd.C_mid (lo := ((ji11) : Int).toNat) (hi := ((wrap64 ((ji11) + (wrap64 ((wrap64 (rd l0 x5_1)) + (wrap64 (256 * (wrap64 (rd l0 (ji5))))))))) : Int).toNat) (c := c0) hC32 (by omega) (by omega) hroom32
                                    obtain ⟨A32, hA32⟩ : ∃ A1, A1 = (if c0 = ((ji11) : Int).toNat then (some ad168) else ((some ad168) : Option Addr).map (·.add (((ji11) : Int).toNat * 1))) := ⟨_, rfl⟩
                                    obtain ⟨c32, hc32⟩ : ∃ c1, c1 = c0 - ((ji11) : Int).toNat := ⟨_, rfl⟩
                                    have hy32 : y170.length = ((wrap64 ((ji11) + (wrap64 ((wrap64 (rd l0 x5_1)) + (wrap64 (256 * (wrap64 (rd l0 (ji5))))))))) : Int).toNat - ((ji11) : Int).toNat := (by rw [Ny170.out, List.length_drop, List.length_take] <;> omega)
                                    rw [show ((l0).take ((wrap64 ((ji11) + (wrap64 ((wrap64 (rd l0 x5_1)) + (wrap64 (256 * (wrap64 (rd l0 (ji5))))))))) : Int).toNat).drop ((ji11) : Int).toNat = y170 from Ny170.out.symm] at hr32
                                    replace hr32 : Kd.C (Kd.int .u8) _ A32 y170.length y170 := (by rw [hA32]; exact hr32)
                                    rw [← hy32, ← hA32, ← hc32] at hcut32
                                    have HR173 := Aside0.mk hr32
                                    have HC173 := Aside0.mk (show y170.length ≤ c32 from by rw [hy32, hc32]; exact Nat.sub_le_sub_right (Nat.le_trans (by omega) hroom32) _)
                                    clear hr32 hC32 hroom32 hi032 hsz32 hc32
                                    have KY32 := Aside0.mk hy32
                                    have KA32 := Aside0.mk hA32
                                    clear hy32 hA32
                                    replace q32 := eq_true q32
                                    go_wp2_with (first | (go_at_call 6; (with_reducible refine (lictorref07_Wrap.calls kj7 _ _ y170 t174 t175 _ ?side1 ?side2 A15.out).mono ?_); (case side1 => repeat (first | exact (Kd.C_below HR173.out HB.out) | (with_reducible refine Kd.C_alloc ?_ _) | (with_reducible refine Kd.C_drewN ?_ _) | (with_reducible refine Kd.C_drew ?_))); (case side2 => exact HC173.out); rintro e w33 ⟨v176, rfl, ho0, hb⟩; have n0_ := Aside0.mk (Kd.S_elder' (by (with_reducible repeat (first | apply Kd.S_alloc | apply Kd.S_drewN | apply Kd.S_drew)); exact HO_4.out) (Kd.R_base ho0) hb); have n1_ := Aside0.mk (Kd.R_lower ho0 (below_size (by repeat (first | (with_reducible first | exact HB.out | apply below_alloc | apply pw_below_drewN | apply below_drew1) | exact HB.out)))); have n2_ := Aside0.mk (below_step (by repeat (first | (with_reducible first | exact HB.out | apply below_alloc | apply pw_below_drewN | apply below_drew1) | exact HB.out)) hb); clear HO_4; clear HB; have HO_4 := n0_; have HO177 := n1_; have HB := n2_; clear n0_ n1_ n2_; (try clear hb); (try clear hb2); (try clear hk); (try clear hi); (try clear ho0); have hcv34 := own_string (P := Try.prog) Try.underlying22 Try.underlying5 Try.underlying9 (Kd.own_of_R HO177.out); have hcv34d := fun m_ => own_string (P := Try.prog) Try.underlying22 Try.underlying5 Try.underlying9 (pw_own_drewN (Kd.own_of_R HO177.out) m_); have hcv34e := fun m_ n_ => own_string (P := Try.prog) Try.underlying22 Try.underlying5 Try.underlying9 (pw_own_drewN (pw_own_drewN (Kd.own_of_R HO177.out) m_) n_); obtain ⟨i035, hi035, _, hsz35, _⟩ := info_parts info5; obtain ⟨A35, hcut35, hA35, hC35⟩ := print_mid_of (P := Try.prog) (Value.int .u8) 0 22 5 .i64 .i64 Try.underlying22 hi035 hsz35 (some ad168) c0 l0 x5_1 (wrap64 ((wrap64 (x5_1 + (wrap64 ((wrap64 (rd l0 x5_1)) + (wrap64 (256 * (wrap64 (rd l0 (ji5))))))))) + 6)) (of_decide_eq_true (by first | (with_reducible assumption) | assumption)) (by first | omega | exact of_decide_eq_true (by first | (with_reducible assumption) | assumption)) (of_decide_eq_true (by first | (with_reducible assumption) | assumption)) HC0.out; have HR178 := Aside0.mk (Kd.C_of_reads (h1 := fun _ => rfl) (hA35 _ (Kd.reads_of_C HR0.out))); have HC178 := Aside0.mk hC35; clear hA35 hC35 hi035 hsz35; have hcv36 := Kd.C_string (P := Try.prog) (A := A35) (c := (c0 - x5_1.toNat)) Try.underlying22 Try.underlying5 Try.underlying9 (Kd.C_below HR178.out HB.out); have hcv36d := fun m_ => Kd.C_string (P := Try.prog) (A := A35) (c := (c0 - x5_1.toNat)) Try.underlying22 Try.underlying5 Try.underlying9 (Kd.C_drewN (Kd.C_below HR178.out HB.out) m_); have hcv36e := fun m_ n_ => Kd.C_string (P := Try.prog) (A := A35) (c := (c0 - x5_1.toNat)) Try.underlying22 Try.underlying5 Try.underlying9 (Kd.C_drewN (Kd.C_drewN (Kd.C_below HR178.out HB.out) m_) n_); (try (have hcv36s := hcv36; simp only [show ((l0.take ((wrap64 ((wrap64 (x5_1 + (wrap64 ((wrap64 (rd l0 x5_1)) + (wrap64 (256 * (wrap64 (rd l0 (ji5))))))))) + 6)) : Int).toNat).drop (x5_1 : Int).toNat).length = ((wrap64 ((wrap64 (x5_1 + (wrap64 ((wrap64 (rd l0 x5_1)) + (wrap64 (256 * (wrap64 (rd l0 (ji5))))))))) + 6)).toNat - x5_1.toNat) from (by rw [List.length_drop, List.length_take]; have h_ : ((wrap64 ((wrap64 (x5_1 + (wrap64 ((wrap64 (rd l0 x5_1)) + (wrap64 (256 * (wrap64 (rd l0 (ji5))))))))) + 6)) : Int) ≤ (l0.length : Int) := of_decide_eq_true (by first | (with_reducible assumption) | assumption); omega)] at hcv36s)); (try (have hcv36ds := hcv36d; simp only [show ((l0.take ((wrap64 ((wrap64 (x5_1 + (wrap64 ((wrap64 (rd l0 x5_1)) + (wrap64 (256 * (wrap64 (rd l0 (ji5))))))))) + 6)) : Int).toNat).drop (x5_1 : Int).toNat).length = ((wrap64 ((wrap64 (x5_1 + (wrap64 ((wrap64 (rd l0 x5_1)) + (wrap64 (256 * (wrap64 (rd l0 (ji5))))))))) + 6)).toNat - x5_1.toNat) from (by rw [List.length_drop, List.length_take]; have h_ : ((wrap64 ((wrap64 (x5_1 + (wrap64 ((wrap64 (rd l0 x5_1)) + (wrap64 (256 * (wrap64 (rd l0 (ji5))))))))) + 6)) : Int) ≤ (l0.length : Int) := of_decide_eq_true (by first | (with_reducible assumption) | assumption); omega)] at hcv36ds)); (try (have hcv36es := hcv36e; simp only [show ((l0.take ((wrap64 ((wrap64 (x5_1 + (wrap64 ((wrap64 (rd l0 x5_1)) + (wrap64 (256 * (wrap64 (rd l0 (ji5))))))))) + 6)) : Int).toNat).drop (x5_1 : Int).toNat).length = ((wrap64 ((wrap64 (x5_1 + (wrap64 ((wrap64 (rd l0 x5_1)) + (wrap64 (256 * (wrap64 (rd l0 (ji5))))))))) + 6)).toNat - x5_1.toNat) from (by rw [List.length_drop, List.length_take]; have h_ : ((wrap64 ((wrap64 (x5_1 + (wrap64 ((wrap64 (rd l0 x5_1)) + (wrap64 (256 * (wrap64 (rd l0 (ji5))))))))) + 6)) : Int) ≤ (l0.length : Int) := of_decide_eq_true (by first | (with_reducible assumption) | assumption); omega)] at hcv36es))))
                                    repeat (go_quiet (first | (go_at_call 6; (with_reducible refine (lictorref07_Wrap.calls kj7 _ _ y170 t174 t175 _ ?side1 ?side2 A15.out).mono ?_); (case side1 => repeat (first | exact (Kd.C_below HR173.out HB.out) | (with_reducible refine Kd.C_alloc ?_ _) | (with_reducible refine Kd.C_drewN ?_ _) | (with_reducible refine Kd.C_drew ?_))); (case side2 => exact HC173.out); rintro e w33 ⟨v176, rfl, ho0, hb⟩; have n0_ := Aside0.mk (Kd.S_elder' (by (with_reducible repeat (first | apply Kd.S_alloc | apply Kd.S_drewN | apply Kd.S_drew)); exact HO_4.out) (Kd.R_base ho0) hb); have n1_ := Aside0.mk (Kd.R_lower ho0 (below_size (by repeat (first | (with_reducible first | exact HB.out | apply below_alloc | apply pw_below_drewN | apply below_drew1) | exact HB.out)))); have n2_ := Aside0.mk (below_step (by repeat (first | (with_reducible first | exact HB.out | apply below_alloc | apply pw_below_drewN | apply below_drew1) | exact HB.out)) hb); clear HO_4; clear HB; have HO_4 := n0_; have HO177 := n1_; have HB := n2_; clear n0_ n1_ n2_; (try clear hb); (try clear hb2); (try clear hk); (try clear hi); (try clear ho0); have hcv34 := own_string (P := Try.prog) Try.underlying22 Try.underlying5 Try.underlying9 (Kd.own_of_R HO177.out); have hcv34d := fun m_ => own_string (P := Try.prog) Try.underlying22 Try.underlying5 Try.underlying9 (pw_own_drewN (Kd.own_of_R HO177.out) m_); have hcv34e := fun m_ n_ => own_string (P := Try.prog) Try.underlying22 Try.underlying5 Try.underlying9 (pw_own_drewN (pw_own_drewN (Kd.own_of_R HO177.out) m_) n_); obtain ⟨i035, hi035, _, hsz35, _⟩ := info_parts info5; obtain ⟨A35, hcut35, hA35, hC35⟩ := print_mid_of (P := Try.prog) (Value.int .u8) 0 22 5 .i64 .i64 Try.underlying22 hi035 hsz35 (some ad168) c0 l0 x5_1 (wrap64 ((wrap64 (x5_1 + (wrap64 ((wrap64 (rd l0 x5_1)) + (wrap64 (256 * (wrap64 (rd l0 (ji5))))))))) + 6)) (of_decide_eq_true (by first | (with_reducible assumption) | assumption)) (by first | omega | exact of_decide_eq_true (by first | (with_reducible assumption) | assumption)) (of_decide_eq_true (by first | (with_reducible assumption) | assumption)) HC0.out; have HR178 := Aside0.mk (Kd.C_of_reads (h1 := fun _ => rfl) (hA35 _ (Kd.reads_of_C HR0.out))); have HC178 := Aside0.mk hC35; clear hA35 hC35 hi035 hsz35; have hcv36 := Kd.C_string (P := Try.prog) (A := A35) (c := (c0 - x5_1.toNat)) Try.underlying22 Try.underlying5 Try.underlying9 (Kd.C_below HR178.out HB.out); have hcv36d := fun m_ => Kd.C_string (P := Try.prog) (A := A35) (c := (c0 - x5_1.toNat)) Try.underlying22 Try.underlying5 Try.underlying9 (Kd.C_drewN (Kd.C_below HR178.out HB.out) m_); have hcv36e := fun m_ n_ => Kd.C_string (P := Try.prog) (A := A35) (c := (c0 - x5_1.toNat)) Try.underlying22 Try.underlying5 Try.underlying9 (Kd.C_drewN (Kd.C_drewN (Kd.C_below HR178.out HB.out) m_) n_); (try (have hcv36s := hcv36; simp only [show ((l0.take ((wrap64 ((wrap64 (x5_1 + (wrap64 ((wrap64 (rd l0 x5_1)) + (wrap64 (256 * (wrap64 (rd l0 (ji5))))))))) + 6)) : Int).toNat).drop (x5_1 : Int).toNat).length = ((wrap64 ((wrap64 (x5_1 + (wrap64 ((wrap64 (rd l0 x5_1)) + (wrap64 (256 * (wrap64 (rd l0 (ji5))))))))) + 6)).toNat - x5_1.toNat) from (by rw [List.length_drop, List.length_take]; have h_ : ((wrap64 ((wrap64 (x5_1 + (wrap64 ((wrap64 (rd l0 x5_1)) + (wrap64 (256 * (wrap64 (rd l0 (ji5))))))))) + 6)) : Int) ≤ (l0.length : Int) := of_decide_eq_true (by first | (with_reducible assumption) | assumption); omega)] at hcv36s)); (try (have hcv36ds := hcv36d; simp only [show ((l0.take ((wrap64 ((wrap64 (x5_1 + (wrap64 ((wrap64 (rd l0 x5_1)) + (wrap64 (256 * (wrap64 (rd l0 (ji5))))))))) + 6)) : Int).toNat).drop (x5_1 : Int).toNat).length = ((wrap64 ((wrap64 (x5_1 + (wrap64 ((wrap64 (rd l0 x5_1)) + (wrap64 (256 * (wrap64 (rd l0 (ji5))))))))) + 6)).toNat - x5_1.toNat) from (by rw [List.length_drop, List.length_take]; have h_ : ((wrap64 ((wrap64 (x5_1 + (wrap64 ((wrap64 (rd l0 x5_1)) + (wrap64 (256 * (wrap64 (rd l0 (ji5))))))))) + 6)) : Int) ≤ (l0.length : Int) := of_decide_eq_true (by first | (with_reducible assumption) | assumption); omega)] at hcv36ds)); (try (have hcv36es := hcv36e; simp only [show ((l0.take ((wrap64 ((wrap64 (x5_1 + (wrap64 ((wrap64 (rd l0 x5_1)) + (wrap64 (256 * (wrap64 (rd l0 (ji5))))))))) + 6)) : Int).toNat).drop (x5_1 : Int).toNat).length = ((wrap64 ((wrap64 (x5_1 + (wrap64 ((wrap64 (rd l0 x5_1)) + (wrap64 (256 * (wrap64 (rd l0 (ji5))))))))) + 6)).toNat - x5_1.toNat) from (by rw [List.length_drop, List.length_take]; have h_ : ((wrap64 ((wrap64 (x5_1 + (wrap64 ((wrap64 (rd l0 x5_1)) + (wrap64 (256 * (wrap64 (rd l0 (ji5))))))))) + 6)) : Int) ≤ (l0.length : Int) := of_decide_eq_true (by first | (with_reducible assumption) | assumption); omega)] at hcv36es)))); try go_wp2_with (first | (go_at_call 6; (with_reducible refine (lictorref07_Wrap.calls kj7 _ _ y170 t174 t175 _ ?side1 ?side2 A15.out).mono ?_); (case side1 => repeat (first | exact (Kd.C_below HR173.out HB.out) | (with_reducible refine Kd.C_alloc ?_ _) | (with_reducible refine Kd.C_drewN ?_ _) | (with_reducible refine Kd.C_drew ?_))); (case side2 => exact HC173.out); rintro e w33 ⟨v176, rfl, ho0, hb⟩; have n0_ := Aside0.mk (Kd.S_elder' (by (with_reducible repeat (first | apply Kd.S_alloc | apply Kd.S_drewN | apply Kd.S_drew)); exact HO_4.out) (Kd.R_base ho0) hb); have n1_ := Aside0.mk (Kd.R_lower ho0 (below_size (by repeat (first | (with_reducible first | exact HB.out | apply below_alloc | apply pw_below_drewN | apply below_drew1) | exact HB.out)))); have n2_ := Aside0.mk (below_step (by repeat (first | (with_reducible first | exact HB.out | apply below_alloc | apply pw_below_drewN | apply below_drew1) | exact HB.out)) hb); clear HO_4; clear HB; have HO_4 := n0_; have HO177 := n1_; have HB := n2_; clear n0_ n1_ n2_; (try clear hb); (try clear hb2); (try clear hk); (try clear hi); (try clear ho0); have hcv34 := own_string (P := Try.prog) Try.underlying22 Try.underlying5 Try.underlying9 (Kd.own_of_R HO177.out); have hcv34d := fun m_ => own_string (P := Try.prog) Try.underlying22 Try.underlying5 Try.underlying9 (pw_own_drewN (Kd.own_of_R HO177.out) m_); have hcv34e := fun m_ n_ => own_string (P := Try.prog) Try.underlying22 Try.underlying5 Try.underlying9 (pw_own_drewN (pw_own_drewN (Kd.own_of_R HO177.out) m_) n_); obtain ⟨i035, hi035, _, hsz35, _⟩ := info_parts info5; obtain ⟨A35, hcut35, hA35, hC35⟩ := print_mid_of (P := Try.prog) (Value.int .u8) 0 22 5 .i64 .i64 Try.underlying22 hi035 hsz35 (some ad168) c0 l0 x5_1 (wrap64 ((wrap64 (x5_1 + (wrap64 ((wrap64 (rd l0 x5_1)) + (wrap64 (256 * (wrap64 (rd l0 (ji5))))))))) + 6)) (of_decide_eq_true (by first | (with_reducible assumption) | assumption)) (by first | omega | exact of_decide_eq_true (by first | (with_reducible assumption) | assumption)) (of_decide_eq_true (by first | (with_reducible assumption) | assumption)) HC0.out; have HR178 := Aside0.mk (Kd.C_of_reads (h1 := fun _ => rfl) (hA35 _ (Kd.reads_of_C HR0.out))); have HC178 := Aside0.mk hC35; clear hA35 hC35 hi035 hsz35; have hcv36 := Kd.C_string (P := Try.prog) (A := A35) (c := (c0 - x5_1.toNat)) Try.underlying22 Try.underlying5 Try.underlying9 (Kd.C_below HR178.out HB.out); have hcv36d := fun m_ => Kd.C_string (P := Try.prog) (A := A35) (c := (c0 - x5_1.toNat)) Try.underlying22 Try.underlying5 Try.underlying9 (Kd.C_drewN (Kd.C_below HR178.out HB.out) m_); have hcv36e := fun m_ n_ => Kd.C_string (P := Try.prog) (A := A35) (c := (c0 - x5_1.toNat)) Try.underlying22 Try.underlying5 Try.underlying9 (Kd.C_drewN (Kd.C_drewN (Kd.C_below HR178.out HB.out) m_) n_); (try (have hcv36s := hcv36; simp only [show ((l0.take ((wrap64 ((wrap64 (x5_1 + (wrap64 ((wrap64 (rd l0 x5_1)) + (wrap64 (256 * (wrap64 (rd l0 (ji5))))))))) + 6)) : Int).toNat).drop (x5_1 : Int).toNat).length = ((wrap64 ((wrap64 (x5_1 + (wrap64 ((wrap64 (rd l0 x5_1)) + (wrap64 (256 * (wrap64 (rd l0 (ji5))))))))) + 6)).toNat - x5_1.toNat) from (by rw [List.length_drop, List.length_take]; have h_ : ((wrap64 ((wrap64 (x5_1 + (wrap64 ((wrap64 (rd l0 x5_1)) + (wrap64 (256 * (wrap64 (rd l0 (ji5))))))))) + 6)) : Int) ≤ (l0.length : Int) := of_decide_eq_true (by first | (with_reducible assumption) | assumption); omega)] at hcv36s)); (try (have hcv36ds := hcv36d; simp only [show ((l0.take ((wrap64 ((wrap64 (x5_1 + (wrap64 ((wrap64 (rd l0 x5_1)) + (wrap64 (256 * (wrap64 (rd l0 (ji5))))))))) + 6)) : Int).toNat).drop (x5_1 : Int).toNat).length = ((wrap64 ((wrap64 (x5_1 + (wrap64 ((wrap64 (rd l0 x5_1)) + (wrap64 (256 * (wrap64 (rd l0 (ji5))))))))) + 6)).toNat - x5_1.toNat) from (by rw [List.length_drop, List.length_take]; have h_ : ((wrap64 ((wrap64 (x5_1 + (wrap64 ((wrap64 (rd l0 x5_1)) + (wrap64 (256 * (wrap64 (rd l0 (ji5))))))))) + 6)) : Int) ≤ (l0.length : Int) := of_decide_eq_true (by first | (with_reducible assumption) | assumption); omega)] at hcv36ds)); (try (have hcv36es := hcv36e; simp only [show ((l0.take ((wrap64 ((wrap64 (x5_1 + (wrap64 ((wrap64 (rd l0 x5_1)) + (wrap64 (256 * (wrap64 (rd l0 (ji5))))))))) + 6)) : Int).toNat).drop (x5_1 : Int).toNat).length = ((wrap64 ((wrap64 (x5_1 + (wrap64 ((wrap64 (rd l0 x5_1)) + (wrap64 (256 * (wrap64 (rd l0 (ji5))))))))) + 6)).toNat - x5_1.toNat) from (by rw [List.length_drop, List.length_take]; have h_ : ((wrap64 ((wrap64 (x5_1 + (wrap64 ((wrap64 (rd l0 x5_1)) + (wrap64 (256 * (wrap64 (rd l0 (ji5))))))))) + 6)) : Int) ≤ (l0.length : Int) := of_decide_eq_true (by first | (with_reducible assumption) | assumption); omega)] at hcv36es)))))
                                    go_ret2
                                    exact ⟨_, by first | rfl | (simp [errW_none, errW_some] <;> rfl) | (simp only [← hji5, ← hji11]; first | rfl | (simp [errW_none, errW_some] <;> rfl)) | (simp [*, errW_none, errW_some] <;> rfl), by (with_reducible repeat (first | apply Kd.S_alloc | apply Kd.S_drewN | apply Kd.S_drew)); exact Kd.S_mono HO_4.out (fun _ hk => trivial), by repeat (first | (with_reducible first | exact HB.out | apply below_alloc | apply pw_below_drewN | apply below_drew1) | exact HB.out)⟩
                                · rw [if_neg c18] at H
                                  exact absurd H (by simp)
                              · rw [if_neg c17] at H
                                exact absurd H (by simp)
                            · rw [if_neg c16] at H
                              exact absurd H (by simp)
                          · rw [if_neg c14] at H
                            exact absurd H (by simp)
                        · rw [if_neg c13] at H
                          exact absurd H (by simp)
                      · rw [if_neg c12] at H
                        exact absurd H (by simp)
              · rw [if_neg c7] at H
                exact absurd H (by simp)
            · rw [if_neg c6] at H
              exact absurd H (by simp)
          · rw [if_neg c4] at H
            exact absurd H (by simp)
        · rw [if_neg c3] at H
          exact absurd H (by simp)
      · rw [if_neg c2] at H
        have c2b0 : decide ((wrap64 (x5_1 + 2)) ≤ (l0.length : Int)) = false := decide_eq_false c2
        clear c2
        simp only [Option.some.injEq, Prod.mk.injEq] at H
        obtain ⟨rfl, rfl⟩ := H
        go_wp2
        repeat (go_quiet (fail); try go_wp2)
        go_ret2
        exact ⟨_, by first | rfl | (simp [errW_none, errW_some] <;> rfl) | (simp [*, errW_none, errW_some] <;> rfl), by (with_reducible repeat (first | apply Kd.S_alloc | apply Kd.S_drewN | apply Kd.S_drew)); exact HO_4.out, by repeat (first | (with_reducible first | exact HB.out | apply below_alloc | apply pw_below_drewN | apply below_drew1) | exact HB.out)⟩

/-! ### lictorref07_Same: function 9 -/
def lictorref07_Same.l0 : Nat → List (List Int) → List (List Int) → Int → Option (Bool)
  | 0, _, _, _ => none
  | k + 1, x0, x1, x5 => if x5 < (x0.length : Int) then (if 0 ≤ x5 then (if x5 < (x1.length : Int) then (if (strOfNums (rd_L1 x0 x5)).toList = (strOfNums (rd_L1 x1 x5)).toList then (lictorref07_Same.l0 k x0 x1 (wrap64 (x5 + 1))) else (some false)) else (none)) else (none)) else (some true)
def lictorref07_Same.f (k : Nat) (l0 : List (List Int)) (l1 : List (List Int)) : Option (Bool) := if (l0.length : Int) = (l1.length : Int) then (lictorref07_Same.l0 k l0 l1 0) else (some false)
theorem lictorref07_Same.mono_l : ∀ k, (∀ y0 y1 y2, LeO (lictorref07_Same.l0 k y0 y1 y2) (lictorref07_Same.l0 (k + 1) y0 y1 y2))
  | 0 => fun _ _ _ r h => by simp [lictorref07_Same.l0] at h
  | k + 1 => by
    have ih0 := lictorref07_Same.mono_l k
    · intro y0 y1 y2
      unfold lictorref07_Same.l0
      repeat' first
      | (with_reducible exact ih0 _ _ _)
      | (with_reducible exact LeO.refl _)
      | (with_reducible exact LeO.none _)
      | (with_reducible refine LeO.ite ?_ ?_)
      | (with_reducible refine LeO.bind ?_ (fun _ => ?_))
      | exact ih0 _ _ _
      | exact LeO.none _
      | refine LeO.ite ?_ ?_
      | refine LeO.bind ?_ (fun _ => ?_)
theorem lictorref07_Same.mono : ∀ a0 a1 k, LeO (lictorref07_Same.f k a0 a1) (lictorref07_Same.f (k + 1) a0 a1) := by
  intro a0 a1 k
  have ih0 := lictorref07_Same.mono_l k
  unfold lictorref07_Same.f
  repeat' first
      | (with_reducible exact ih0 _ _ _)
      | (with_reducible exact LeO.refl _)
      | (with_reducible exact LeO.none _)
      | (with_reducible refine LeO.ite ?_ ?_)
      | (with_reducible refine LeO.bind ?_ (fun _ => ?_))
      | exact ih0 _ _ _
      | exact LeO.none _
      | refine LeO.ite ?_ ?_
      | refine LeO.bind ?_ (fun _ => ?_)
set_option maxHeartbeats 8000000 in
set_option maxRecDepth 100000 in
theorem lictorref07_Same.calls (k : Nat) (A0 : Option Addr) (c0 : Nat) (l0 : List (List Int)) (A1 : Option Addr) (c1 : Nat) (l1 : List (List Int)) (r : Bool) (w : World) (hr0 : Kd.C (Kd.slice 5 (Kd.int .u8)) w A0 l0.length l0) (hc0 : l0.length ≤ c0) (hr1 : Kd.C (Kd.slice 5 (Kd.int .u8)) w A1 l1.length l1) (hc1 : l1.length ≤ c1) (h : lictorref07_Same.f k l0 l1 = some r) :
    Calls Try.prog 9 #[.slice A0 l0.length c0, .slice A1 l1.length c1] w fun e w' => e = .returned (.bool r) ∧ Drawn0 w w' := by
  have HR0 := Aside0.mk hr0
  have HC0 := Aside0.mk hc0
  clear hr0 hc0
  have HR1 := Aside0.mk hr1
  have HC1 := Aside0.mk hc1
  clear hr1 hc1
  have H : (if (l0.length : Int) = (l1.length : Int) then (lictorref07_Same.l0 k l0 l1 0) else (some false)) = some r := h
  clear h
  by_cases c3 : (l0.length : Int) = (l1.length : Int)
  · rw [if_pos c3] at H
    have c3b0 : ((l0.length : Int) == (l1.length : Int)) = true := beq_iff_eq.mpr c3
    have c3b1 : ((l0.length : Int) != (l1.length : Int)) = false := bne_eq_false_iff_eq.mpr c3
    have c3b2 : (l0.length == l1.length) = true := by first | simpa using c3 | (simp at c3 ⊢; omega)
    clear c3
    have H' := Aside0.mk H
    clear H
    go_enter Try.func9, Try.ntmps9
    go_wp2
    repeat (go_quiet (fail); try go_wp2)
    go_loopg [5] k (fun kq v5 w' => ∃ (x5_1 : Int), v5 = .int .i64 x5_1 ∧ Aside0 (lictorref07_Same.l0 kq l0 l1 x5_1 = some r) ∧ Aside0 (kq ≤ k) ∧ Drawn0 w w')
    case atStart => exact ⟨(0), (by first | rfl | (simp; done) | (simp [*]; done)), H', ⟨Nat.le_refl _⟩, by repeat (first | exact Drawn0.refl _ | apply Drawn0.step)⟩
    case round =>
      clear H'
      try clear c1
      try clear p2
      try clear c3
      try clear c3b0
      try clear c3b1
      try clear c3b2
      obtain ⟨x5_1, rfl, HA, HK1, ⟨m1, rfl⟩⟩ := hrel
      cases gk with
      | zero => exact absurd HA.out (by simp [lictorref07_Same.l0])
      | succ k1 =>
        have H := HA.out
        clear HA
        simp only [lictorref07_Same.l0] at H
        by_cases c4 : x5_1 < (l0.length : Int)
        · rw [if_pos c4] at H
          have c4b0 : decide (x5_1 < (l0.length : Int)) = true := decide_eq_true c4
          clear c4
          by_cases c5 : 0 ≤ x5_1
          · rw [if_pos c5] at H
            have c5b0 : decide (0 ≤ x5_1) = true := decide_eq_true c5
            clear c5
            by_cases c6 : x5_1 < (l1.length : Int)
            · rw [if_pos c6] at H
              have c6b0 : decide (x5_1 < (l1.length : Int)) = true := decide_eq_true c6
              clear c6
              by_cases c7 : (strOfNums (rd_L1 l0 x5_1)).toList = (strOfNums (rd_L1 l1 x5_1)).toList
              · rw [if_pos c7] at H
                have c7b0 : ((strOfNums (rd_L1 l0 x5_1)).toList == (strOfNums (rd_L1 l1 x5_1)).toList) = true := beq_iff_eq.mpr c7
                have c7b1 : ((strOfNums (rd_L1 l0 x5_1)).toList != (strOfNums (rd_L1 l1 x5_1)).toList) = false := bne_eq_false_iff_eq.mpr c7
                clear c7
                have H' := Aside0.mk H
                clear H
                have p188 : 0 ≤ (x5_1 : Int) := of_decide_eq_true (by first | (with_reducible assumption) | assumption)
                have q188 : x5_1 < (l0.length : Int) := of_decide_eq_true (by first | (with_reducible assumption) | assumption)
                obtain ⟨ad188, A188_0, c188_0, e188, hx188_0, hl188_0, hi188_0⟩ := at_L1 HR0.out x5_1 p188 q188
                cases e188
                have HR188_0 := Aside0.mk hi188_0
                have HC188_0 := Aside0.mk hl188_0
                clear hi188_0 hl188_0
                replace p188 := eq_true p188
                replace q188 := eq_true q188
                have hcv8 := Kd.C_string (P := Try.prog) (A := A188_0) (c := c188_0) Try.underlying22 Try.underlying5 Try.underlying9 HR188_0.out
                have hcv8d := fun m_ => Kd.C_string (P := Try.prog) (A := A188_0) (c := c188_0) Try.underlying22 Try.underlying5 Try.underlying9 (Kd.C_drewN HR188_0.out m_)
                have hcv8e := fun m_ n_ => Kd.C_string (P := Try.prog) (A := A188_0) (c := c188_0) Try.underlying22 Try.underlying5 Try.underlying9 (Kd.C_drewN (Kd.C_drewN HR188_0.out m_) n_)
                have p189 : 0 ≤ (x5_1 : Int) := of_decide_eq_true (by first | (with_reducible assumption) | assumption)
                have q189 : x5_1 < (l1.length : Int) := of_decide_eq_true (by first | (with_reducible assumption) | assumption)
                obtain ⟨ad189, A189_0, c189_0, e189, hx189_0, hl189_0, hi189_0⟩ := at_L1 HR1.out x5_1 p189 q189
                cases e189
                have HR189_0 := Aside0.mk hi189_0
                have HC189_0 := Aside0.mk hl189_0
                clear hi189_0 hl189_0
                replace p189 := eq_true p189
                replace q189 := eq_true q189
                have hcv9 := Kd.C_string (P := Try.prog) (A := A189_0) (c := c189_0) Try.underlying22 Try.underlying5 Try.underlying9 HR189_0.out
                have hcv9d := fun m_ => Kd.C_string (P := Try.prog) (A := A189_0) (c := c189_0) Try.underlying22 Try.underlying5 Try.underlying9 (Kd.C_drewN HR189_0.out m_)
                have hcv9e := fun m_ n_ => Kd.C_string (P := Try.prog) (A := A189_0) (c := c189_0) Try.underlying22 Try.underlying5 Try.underlying9 (Kd.C_drewN (Kd.C_drewN HR189_0.out m_) n_)
                go_wp2
                repeat (go_quiet (fail); try go_wp2)
                go_roundg k1
                case measure => have := HK1.out; omega
                case rel => exact ⟨(wrap64 (x5_1 + 1)), (by first | rfl | (simp; done) | (simp [*]; done)), H', ⟨by have := HK1.out; omega⟩, by repeat (first | exact Drawn0.refl _ | apply Drawn0.step)⟩
              · rw [if_neg c7] at H
                have c7b0 : ((strOfNums (rd_L1 l0 x5_1)).toList == (strOfNums (rd_L1 l1 x5_1)).toList) = false := beq_eq_false_iff_ne.mpr c7
                have c7b1 : ((strOfNums (rd_L1 l0 x5_1)).toList != (strOfNums (rd_L1 l1 x5_1)).toList) = true := bne_iff_ne.mpr c7
                obtain rfl := Option.some.inj H
                have p188 : 0 ≤ (x5_1 : Int) := of_decide_eq_true (by first | (with_reducible assumption) | assumption)
                have q188 : x5_1 < (l0.length : Int) := of_decide_eq_true (by first | (with_reducible assumption) | assumption)
                obtain ⟨ad188, A188_0, c188_0, e188, hx188_0, hl188_0, hi188_0⟩ := at_L1 HR0.out x5_1 p188 q188
                cases e188
                have HR188_0 := Aside0.mk hi188_0
                have HC188_0 := Aside0.mk hl188_0
                clear hi188_0 hl188_0
                replace p188 := eq_true p188
                replace q188 := eq_true q188
                have hcv10 := Kd.C_string (P := Try.prog) (A := A188_0) (c := c188_0) Try.underlying22 Try.underlying5 Try.underlying9 HR188_0.out
                have hcv10d := fun m_ => Kd.C_string (P := Try.prog) (A := A188_0) (c := c188_0) Try.underlying22 Try.underlying5 Try.underlying9 (Kd.C_drewN HR188_0.out m_)
                have hcv10e := fun m_ n_ => Kd.C_string (P := Try.prog) (A := A188_0) (c := c188_0) Try.underlying22 Try.underlying5 Try.underlying9 (Kd.C_drewN (Kd.C_drewN HR188_0.out m_) n_)
                have p189 : 0 ≤ (x5_1 : Int) := of_decide_eq_true (by first | (with_reducible assumption) | assumption)
                have q189 : x5_1 < (l1.length : Int) := of_decide_eq_true (by first | (with_reducible assumption) | assumption)
                obtain ⟨ad189, A189_0, c189_0, e189, hx189_0, hl189_0, hi189_0⟩ := at_L1 HR1.out x5_1 p189 q189
                cases e189
                have HR189_0 := Aside0.mk hi189_0
                have HC189_0 := Aside0.mk hl189_0
                clear hi189_0 hl189_0
                replace p189 := eq_true p189
                replace q189 := eq_true q189
                have hcv11 := Kd.C_string (P := Try.prog) (A := A189_0) (c := c189_0) Try.underlying22 Try.underlying5 Try.underlying9 HR189_0.out
                have hcv11d := fun m_ => Kd.C_string (P := Try.prog) (A := A189_0) (c := c189_0) Try.underlying22 Try.underlying5 Try.underlying9 (Kd.C_drewN HR189_0.out m_)
                have hcv11e := fun m_ n_ => Kd.C_string (P := Try.prog) (A := A189_0) (c := c189_0) Try.underlying22 Try.underlying5 Try.underlying9 (Kd.C_drewN (Kd.C_drewN HR189_0.out m_) n_)
                go_wp2
                repeat (go_quiet (fail); try go_wp2)
                go_ret
                exact ⟨by first | rfl | (simp; done) | (simp [*]; done), by repeat (first | exact Drawn0.refl _ | apply Drawn0.step)⟩
            · rw [if_neg c6] at H
              exact absurd H (by simp)
          · rw [if_neg c5] at H
            exact absurd H (by simp)
        · rw [if_neg c4] at H
          have c4b0 : decide (x5_1 < (l0.length : Int)) = false := decide_eq_false c4
          clear c4
          obtain rfl := Option.some.inj H
          go_wp2
          repeat (go_quiet (fail); try go_wp2)
          go_ret
          exact ⟨by first | rfl | (simp; done) | (simp [*]; done), by repeat (first | exact Drawn0.refl _ | apply Drawn0.step)⟩
  · rw [if_neg c3] at H
    have c3b0 : ((l0.length : Int) == (l1.length : Int)) = false := beq_eq_false_iff_ne.mpr c3
    have c3b1 : ((l0.length : Int) != (l1.length : Int)) = true := bne_iff_ne.mpr c3
    have c3b2 : (l0.length == l1.length) = false := by first | simpa using c3 | (simp at c3 ⊢; omega)
    obtain rfl := Option.some.inj H
    go_enter Try.func9, Try.ntmps9
    go_wp2
    repeat (go_quiet (fail); try go_wp2)
    go_ret
    exact ⟨by first | rfl | (simp; done) | (simp [*]; done), by repeat (first | exact Drawn0.refl _ | apply Drawn0.step)⟩

end Go.Proofs.Ytcfakoocldahaaa.PFrameTells
