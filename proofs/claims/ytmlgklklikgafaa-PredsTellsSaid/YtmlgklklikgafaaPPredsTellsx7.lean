-- Written by a program of this session, which is the kit's print with hand-given functions (wip/tools/mkprint.py).
import Derived.Test.YtmlgklklikgafaaPPredsTellsx0
import Derived.Test.YtmlgklklikgafaaPPredsTellsx1
import Derived.Test.YtmlgklklikgafaaPPredsTellsx2
import Derived.Test.YtmlgklklikgafaaPPredsTellsx3
import Derived.Test.YtmlgklklikgafaaPPredsTellsx6
namespace Go.Proofs.Ytmlgklklikgafaa.PPredsTells
open Go.RowKit Go.Proofs.YtmlgklklikgafaaW.PrintWords Go.Proofs.YtmlgklklikgafaaW.PrintLast Go.Proofs.YtmlgklklikgafaaW.PrintMore
attribute [local go_sem] max2_int min2_int max_two min_two max_three min_three max_four min_four   -- for this text's walks alone
set_option linter.unusedVariables false
set_option linter.unusedSimpArgs false

attribute [local go_sem high] eqA32
/-! ### lictorlaw03_alive: function 5 -/
def lictorlaw03_alive.f (k : Nat)  : Option (Bool) := (preds_Of.f k (([(⟨17, 1, 0, 16, 0, 0, 0⟩ : S32), (⟨16, 1, 0, 17, 0, 0, 0⟩ : S32), (⟨17, 1, 0, 16, 0, 0, 0⟩ : S32)] : List (S32)))).bind fun bt206 => ((preds_Of.f k (([(⟨17, 1, 0, 16, 0, 0, 0⟩ : S32), (⟨17, 1, 0, 18, 0, 0, 0⟩ : S32)] : List (S32)))).bind fun bt213 => (if bt206.2 = 0 then (if (bt206.1.length : Int) = 2 then (if 0 < (bt206.1.length : Int) then (if (((rd_T32 bt206.1 0).f0) == 16 && (((rd_T32 bt206.1 0).f1) == 1 && (((rd_T32 bt206.1 0).f2) == 0 && (((rd_T32 bt206.1 0).f3) == 17 && (((rd_T32 bt206.1 0).f4) == 0 && (((rd_T32 bt206.1 0).f5) == 0 && (((rd_T32 bt206.1 0).f6) == 0))))))) = true then (if 1 < (bt206.1.length : Int) then (if (((rd_T32 bt206.1 1).f0) == 17 && (((rd_T32 bt206.1 1).f1) == 1 && (((rd_T32 bt206.1 1).f2) == 0 && (((rd_T32 bt206.1 1).f3) == 16 && (((rd_T32 bt206.1 1).f4) == 0 && (((rd_T32 bt206.1 1).f5) == 0 && (((rd_T32 bt206.1 1).f6) == 0))))))) = true then (if bt213.2 = 6 then ((preds_Right.f k bt206.1).bind fun t219 => (if t219 = true then ((preds_Minus.f k bt206.1 (([(⟨17, 1, 0, 16, 0, 0, 0⟩ : S32)] : List (S32)))).bind fun t223 => (some ((t223.length : Int) == 1))) else (none))) else (none)) else (none)) else (none)) else (none)) else (none)) else (none)) else (none)))
theorem lictorlaw03_alive.mono : ∀ k, LeO (lictorlaw03_alive.f k ) (lictorlaw03_alive.f (k + 1) ) := by
  intro  k
  unfold lictorlaw03_alive.f
  repeat' first
      | (with_reducible exact preds_Minus.mono _ _ _)
      | (with_reducible exact preds_Of.mono _ _)
      | (with_reducible exact preds_Right.mono _ _)
      | (with_reducible exact LeO.refl _)
      | (with_reducible exact LeO.none _)
      | (with_reducible refine LeO.ite ?_ ?_)
      | (with_reducible refine LeO.bind ?_ (fun _ => ?_))
      | exact preds_Minus.mono _ _ _
      | exact preds_Of.mono _ _
      | exact preds_Right.mono _ _
      | exact LeO.none _
      | refine LeO.ite ?_ ?_
      | refine LeO.bind ?_ (fun _ => ?_)
def lictorlaw03_alive.T5 : Bool × List (List Nat × List Nat) := (true, [([], []), ([0], [0]), ([1], [1]), ([2], [2]), ([3, 2], [2, 3]), ([4, 2], [2, 4]), ([2, 5], [2, 5]), ([6, 2], [6]), ([7], [7]), ([8, 7], [7, 8]), ([9, 7], [7, 9]), ([7], [7]), ([10, 11, 7], [7, 10, 11]), ([7, 12], [7, 12]), ([13, 7], [13]), ([14], [14]), ([15, 14], [14, 15]), ([16, 14], [14, 16]), ([14], [14]), ([17, 18, 14], [14, 17, 18]), ([14, 19], [14, 19]), ([20, 14], [20]), ([21], [21]), ([22, 21], [21, 22]), ([21, 23], [21, 23]), ([24, 21], [24]), ([25], [25]), ([26, 25, 25], [25, 26]), ([25, 27], [25, 27]), ([28, 27], [28]), ([29], [29]), ([29], [29]), ([31, 29], [29, 31]), ([30, 32, 29, 29], [29, 30, 32]), ([33, 29], [29, 33]), ([34, 29], [29, 34]), ([29, 35], [29, 35]), ([36, 33, 0, 1, 2, 3, 4, 5, 6, 7, 8, 9, 10, 11, 12, 13, 14, 15, 16, 17, 18, 19, 20, 21, 22, 23, 24, 25, 26, 27, 28, 29, 30, 31, 32, 33, 34, 35, 36], [36])])
def lictorlaw03_alive.B5 : List Nat := [0, 1, 3, 7, 15, 31, 63, 127, 255, 511, 1023, 255, 4095, 8191, 16383, 32767, 65535, 131071, 32767, 524287, 1048575, 2097151, 4194303, 8388607, 16777215, 33554431, 67108863, 134217727, 268435455, 536870911, 1073741823, 1073741823, 3221225471, 8589934591, 17179869183, 34359738367, 68719476735, 137438953471]
theorem lictorlaw03_alive.tab5 : rtab .any (opsOf Try.f5 5) = lictorlaw03_alive.T5 := by kernel_rfl
theorem lictorlaw03_alive.bits5 : waitsOk lictorlaw03_alive.T5.2 lictorlaw03_alive.B5 = true := by kernel_rfl
set_option maxHeartbeats 8000000 in
set_option maxRecDepth 100000 in
theorem lictorlaw03_alive.calls (k : Nat)  (r : Bool) (w : World) (h : lictorlaw03_alive.f k  = some r) :
    Calls Try.prog 5 #[] w fun e w' => e = .returned (.bool r) ∧ Below w.heap.size w w' := by
  have hu32 := Try.underlying32
  have HB := Aside0.mk (Below.refl w.heap.size w)
  have H : ((preds_Of.f k (([(⟨17, 1, 0, 16, 0, 0, 0⟩ : S32), (⟨16, 1, 0, 17, 0, 0, 0⟩ : S32), (⟨17, 1, 0, 16, 0, 0, 0⟩ : S32)] : List (S32)))).bind fun bt206 => ((preds_Of.f k (([(⟨17, 1, 0, 16, 0, 0, 0⟩ : S32), (⟨17, 1, 0, 18, 0, 0, 0⟩ : S32)] : List (S32)))).bind fun bt213 => (if bt206.2 = 0 then (if (bt206.1.length : Int) = 2 then (if 0 < (bt206.1.length : Int) then (if (((rd_T32 bt206.1 0).f0) == 16 && (((rd_T32 bt206.1 0).f1) == 1 && (((rd_T32 bt206.1 0).f2) == 0 && (((rd_T32 bt206.1 0).f3) == 17 && (((rd_T32 bt206.1 0).f4) == 0 && (((rd_T32 bt206.1 0).f5) == 0 && (((rd_T32 bt206.1 0).f6) == 0))))))) = true then (if 1 < (bt206.1.length : Int) then (if (((rd_T32 bt206.1 1).f0) == 17 && (((rd_T32 bt206.1 1).f1) == 1 && (((rd_T32 bt206.1 1).f2) == 0 && (((rd_T32 bt206.1 1).f3) == 16 && (((rd_T32 bt206.1 1).f4) == 0 && (((rd_T32 bt206.1 1).f5) == 0 && (((rd_T32 bt206.1 1).f6) == 0))))))) = true then (if bt213.2 = 6 then ((preds_Right.f k bt206.1).bind fun t219 => (if t219 = true then ((preds_Minus.f k bt206.1 (([(⟨17, 1, 0, 16, 0, 0, 0⟩ : S32)] : List (S32)))).bind fun t223 => (some ((t223.length : Int) == 1))) else (none))) else (none)) else (none)) else (none)) else (none)) else (none)) else (none)) else (none)))) = some r := h
  clear h
  obtain ⟨y203, hy203⟩ : ∃ y_ : List (S32), y_ = (([(⟨17, 1, 0, 16, 0, 0, 0⟩ : S32), (⟨16, 1, 0, 17, 0, 0, 0⟩ : S32), (⟨17, 1, 0, 16, 0, 0, 0⟩ : S32)] : List (S32))) := ⟨_, rfl⟩
  replace H : ((preds_Of.f k y203).bind fun bt206 => ((preds_Of.f k (([(⟨17, 1, 0, 16, 0, 0, 0⟩ : S32), (⟨17, 1, 0, 18, 0, 0, 0⟩ : S32)] : List (S32)))).bind fun bt213 => (if bt206.2 = 0 then (if (bt206.1.length : Int) = 2 then (if 0 < (bt206.1.length : Int) then (if (((rd_T32 bt206.1 0).f0) == 16 && (((rd_T32 bt206.1 0).f1) == 1 && (((rd_T32 bt206.1 0).f2) == 0 && (((rd_T32 bt206.1 0).f3) == 17 && (((rd_T32 bt206.1 0).f4) == 0 && (((rd_T32 bt206.1 0).f5) == 0 && (((rd_T32 bt206.1 0).f6) == 0))))))) = true then (if 1 < (bt206.1.length : Int) then (if (((rd_T32 bt206.1 1).f0) == 17 && (((rd_T32 bt206.1 1).f1) == 1 && (((rd_T32 bt206.1 1).f2) == 0 && (((rd_T32 bt206.1 1).f3) == 16 && (((rd_T32 bt206.1 1).f4) == 0 && (((rd_T32 bt206.1 1).f5) == 0 && (((rd_T32 bt206.1 1).f6) == 0))))))) = true then (if bt213.2 = 6 then ((preds_Right.f k bt206.1).bind fun t219 => (if t219 = true then ((preds_Minus.f k bt206.1 (([(⟨17, 1, 0, 16, 0, 0, 0⟩ : S32)] : List (S32)))).bind fun t223 => (some ((t223.length : Int) == 1))) else (none))) else (none)) else (none)) else (none)) else (none)) else (none)) else (none)) else (none)))) = some r := by first | (rw [hy203]; with_reducible exact H) | (have H2_ := (Option.bind_some _ _).symm.trans H; rw [hy203]; with_reducible exact H2_) | (have H2_ := (Option.bind_some _ _).symm.trans H; with_reducible exact H2_) | with_reducible exact H | (rw [hy203]; exact H) | exact H
  have Ny203 := Aside0.mk hy203
  clear hy203
  replace H := Option.bind_eq_some_iff.mp H
  obtain ⟨⟨t206, t207⟩, A10, H⟩ := H
  replace H : ((preds_Of.f k (([(⟨17, 1, 0, 16, 0, 0, 0⟩ : S32), (⟨17, 1, 0, 18, 0, 0, 0⟩ : S32)] : List (S32)))).bind fun bt213 => (if t207 = 0 then (if (t206.length : Int) = 2 then (if 0 < (t206.length : Int) then (if (((rd_T32 t206 0).f0) == 16 && (((rd_T32 t206 0).f1) == 1 && (((rd_T32 t206 0).f2) == 0 && (((rd_T32 t206 0).f3) == 17 && (((rd_T32 t206 0).f4) == 0 && (((rd_T32 t206 0).f5) == 0 && (((rd_T32 t206 0).f6) == 0))))))) = true then (if 1 < (t206.length : Int) then (if (((rd_T32 t206 1).f0) == 17 && (((rd_T32 t206 1).f1) == 1 && (((rd_T32 t206 1).f2) == 0 && (((rd_T32 t206 1).f3) == 16 && (((rd_T32 t206 1).f4) == 0 && (((rd_T32 t206 1).f5) == 0 && (((rd_T32 t206 1).f6) == 0))))))) = true then (if bt213.2 = 6 then ((preds_Right.f k t206).bind fun t219 => (if t219 = true then ((preds_Minus.f k t206 (([(⟨17, 1, 0, 16, 0, 0, 0⟩ : S32)] : List (S32)))).bind fun t223 => (some ((t223.length : Int) == 1))) else (none))) else (none)) else (none)) else (none)) else (none)) else (none)) else (none)) else (none))) = some r := H
  have A1 := Aside0.mk A10
  clear A10
  obtain ⟨y210, hy210⟩ : ∃ y_ : List (S32), y_ = (([(⟨17, 1, 0, 16, 0, 0, 0⟩ : S32), (⟨17, 1, 0, 18, 0, 0, 0⟩ : S32)] : List (S32))) := ⟨_, rfl⟩
  replace H : ((preds_Of.f k y210).bind fun bt213 => (if t207 = 0 then (if (t206.length : Int) = 2 then (if 0 < (t206.length : Int) then (if (((rd_T32 t206 0).f0) == 16 && (((rd_T32 t206 0).f1) == 1 && (((rd_T32 t206 0).f2) == 0 && (((rd_T32 t206 0).f3) == 17 && (((rd_T32 t206 0).f4) == 0 && (((rd_T32 t206 0).f5) == 0 && (((rd_T32 t206 0).f6) == 0))))))) = true then (if 1 < (t206.length : Int) then (if (((rd_T32 t206 1).f0) == 17 && (((rd_T32 t206 1).f1) == 1 && (((rd_T32 t206 1).f2) == 0 && (((rd_T32 t206 1).f3) == 16 && (((rd_T32 t206 1).f4) == 0 && (((rd_T32 t206 1).f5) == 0 && (((rd_T32 t206 1).f6) == 0))))))) = true then (if bt213.2 = 6 then ((preds_Right.f k t206).bind fun t219 => (if t219 = true then ((preds_Minus.f k t206 (([(⟨17, 1, 0, 16, 0, 0, 0⟩ : S32)] : List (S32)))).bind fun t223 => (some ((t223.length : Int) == 1))) else (none))) else (none)) else (none)) else (none)) else (none)) else (none)) else (none)) else (none))) = some r := by first | (rw [hy210]; with_reducible exact H) | (have H2_ := (Option.bind_some _ _).symm.trans H; rw [hy210]; with_reducible exact H2_) | (have H2_ := (Option.bind_some _ _).symm.trans H; with_reducible exact H2_) | with_reducible exact H | (rw [hy210]; exact H) | exact H
  have Ny210 := Aside0.mk hy210
  clear hy210
  replace H := Option.bind_eq_some_iff.mp H
  obtain ⟨⟨t213, t214⟩, A20, H⟩ := H
  replace H : (if t207 = 0 then (if (t206.length : Int) = 2 then (if 0 < (t206.length : Int) then (if (((rd_T32 t206 0).f0) == 16 && (((rd_T32 t206 0).f1) == 1 && (((rd_T32 t206 0).f2) == 0 && (((rd_T32 t206 0).f3) == 17 && (((rd_T32 t206 0).f4) == 0 && (((rd_T32 t206 0).f5) == 0 && (((rd_T32 t206 0).f6) == 0))))))) = true then (if 1 < (t206.length : Int) then (if (((rd_T32 t206 1).f0) == 17 && (((rd_T32 t206 1).f1) == 1 && (((rd_T32 t206 1).f2) == 0 && (((rd_T32 t206 1).f3) == 16 && (((rd_T32 t206 1).f4) == 0 && (((rd_T32 t206 1).f5) == 0 && (((rd_T32 t206 1).f6) == 0))))))) = true then (if t214 = 6 then ((preds_Right.f k t206).bind fun t219 => (if t219 = true then ((preds_Minus.f k t206 (([(⟨17, 1, 0, 16, 0, 0, 0⟩ : S32)] : List (S32)))).bind fun t223 => (some ((t223.length : Int) == 1))) else (none))) else (none)) else (none)) else (none)) else (none)) else (none)) else (none)) else (none)) = some r := H
  have A2 := Aside0.mk A20
  clear A20
  by_cases c3 : t207 = 0
  · rw [if_pos c3] at H
    have c3b0 : (t207 == 0) = true := beq_iff_eq.mpr c3
    have c3b1 : (t207 != 0) = false := bne_eq_false_iff_eq.mpr c3
    clear c3
    by_cases c4 : (t206.length : Int) = 2
    · rw [if_pos c4] at H
      have c4b0 : ((t206.length : Int) == 2) = true := beq_iff_eq.mpr c4
      have c4b1 : ((t206.length : Int) != 2) = false := bne_eq_false_iff_eq.mpr c4
      clear c4
      by_cases c5 : 0 < (t206.length : Int)
      · rw [if_pos c5] at H
        have c5b0 : decide (0 < (t206.length : Int)) = true := decide_eq_true c5
        have c5b1 : decide (0 < t206.length) = true := decide_eq_true (by omega)
        clear c5
        by_cases c6 : (((rd_T32 t206 0).f0) == 16 && (((rd_T32 t206 0).f1) == 1 && (((rd_T32 t206 0).f2) == 0 && (((rd_T32 t206 0).f3) == 17 && (((rd_T32 t206 0).f4) == 0 && (((rd_T32 t206 0).f5) == 0 && (((rd_T32 t206 0).f6) == 0))))))) = true
        · rw [if_pos c6] at H
          have c6b0 : (((rd_T32 t206 0).f0) == 16 && (((rd_T32 t206 0).f1) == 1 && (((rd_T32 t206 0).f2) == 0 && (((rd_T32 t206 0).f3) == 17 && (((rd_T32 t206 0).f4) == 0 && (((rd_T32 t206 0).f5) == 0 && (((rd_T32 t206 0).f6) == 0))))))) = true := c6
          (try (have c6b1 : decide (((rd_T32 t206 0).f0) = 16 && (((rd_T32 t206 0).f1) == 1 && (((rd_T32 t206 0).f2) == 0 && (((rd_T32 t206 0).f3) == 17 && (((rd_T32 t206 0).f4) == 0 && (((rd_T32 t206 0).f5) == 0 && (((rd_T32 t206 0).f6) == 0))))))) = true := by simpa using c6))
          (try (have c6b2 : (((rd_T32 t206 0).f0) == 16 && (((rd_T32 t206 0).f1) == 1 && (((rd_T32 t206 0).f2) == 0 && (((rd_T32 t206 0).f3) == 17 && (((rd_T32 t206 0).f4) == 0 && (((rd_T32 t206 0).f5) == 0 && (((rd_T32 t206 0).f6) == 0))))))) = true := by simpa using c6))
          clear c6
          by_cases c7 : 1 < (t206.length : Int)
          · rw [if_pos c7] at H
            have c7b0 : decide (1 < (t206.length : Int)) = true := decide_eq_true c7
            have c7b1 : decide (1 < t206.length) = true := decide_eq_true (by omega)
            clear c7
            by_cases c8 : (((rd_T32 t206 1).f0) == 17 && (((rd_T32 t206 1).f1) == 1 && (((rd_T32 t206 1).f2) == 0 && (((rd_T32 t206 1).f3) == 16 && (((rd_T32 t206 1).f4) == 0 && (((rd_T32 t206 1).f5) == 0 && (((rd_T32 t206 1).f6) == 0))))))) = true
            · rw [if_pos c8] at H
              have c8b0 : (((rd_T32 t206 1).f0) == 17 && (((rd_T32 t206 1).f1) == 1 && (((rd_T32 t206 1).f2) == 0 && (((rd_T32 t206 1).f3) == 16 && (((rd_T32 t206 1).f4) == 0 && (((rd_T32 t206 1).f5) == 0 && (((rd_T32 t206 1).f6) == 0))))))) = true := c8
              (try (have c8b1 : decide (((rd_T32 t206 1).f0) = 17 && (((rd_T32 t206 1).f1) == 1 && (((rd_T32 t206 1).f2) == 0 && (((rd_T32 t206 1).f3) == 16 && (((rd_T32 t206 1).f4) == 0 && (((rd_T32 t206 1).f5) == 0 && (((rd_T32 t206 1).f6) == 0))))))) = true := by simpa using c8))
              (try (have c8b2 : (((rd_T32 t206 1).f0) == 17 && (((rd_T32 t206 1).f1) == 1 && (((rd_T32 t206 1).f2) == 0 && (((rd_T32 t206 1).f3) == 16 && (((rd_T32 t206 1).f4) == 0 && (((rd_T32 t206 1).f5) == 0 && (((rd_T32 t206 1).f6) == 0))))))) = true := by simpa using c8))
              clear c8
              by_cases c9 : t214 = 6
              · rw [if_pos c9] at H
                have c9b0 : (t214 == 6) = true := beq_iff_eq.mpr c9
                have c9b1 : (t214 != 6) = false := bne_eq_false_iff_eq.mpr c9
                clear c9
                replace H := Option.bind_eq_some_iff.mp H
                obtain ⟨t219, A100, H⟩ := H
                replace H : (if t219 = true then ((preds_Minus.f k t206 (([(⟨17, 1, 0, 16, 0, 0, 0⟩ : S32)] : List (S32)))).bind fun t223 => (some ((t223.length : Int) == 1))) else (none)) = some r := H
                have A10 := Aside0.mk A100
                clear A100
                by_cases c11 : t219 = true
                · subst c11
                  have H1 : ((preds_Minus.f k t206 (([(⟨17, 1, 0, 16, 0, 0, 0⟩ : S32)] : List (S32)))).bind fun t223 => (some ((t223.length : Int) == 1))) = some r := by rw [if_pos rfl] at H; exact H
                  clear H
                  have H := H1
                  clear H1
                  obtain ⟨y220, hy220⟩ : ∃ y_ : List (S32), y_ = (([(⟨17, 1, 0, 16, 0, 0, 0⟩ : S32)] : List (S32))) := ⟨_, rfl⟩
                  replace H : ((preds_Minus.f k t206 y220).bind fun t223 => (some ((t223.length : Int) == 1))) = some r := by first | (rw [hy220]; with_reducible exact H) | (have H2_ := (Option.bind_some _ _).symm.trans H; rw [hy220]; with_reducible exact H2_) | (have H2_ := (Option.bind_some _ _).symm.trans H; with_reducible exact H2_) | with_reducible exact H | (rw [hy220]; exact H) | exact H
                  have Ny220 := Aside0.mk hy220
                  clear hy220
                  replace H := Option.bind_eq_some_iff.mp H
                  obtain ⟨t223, A120, H⟩ := H
                  replace H : (some ((t223.length : Int) == 1)) = some r := H
                  have A12 := Aside0.mk A120
                  clear A120
                  obtain rfl := Option.some.inj H
                  go_enter Try.func5, Try.ntmps5
                  try go_wp2_with (first | ((with_reducible refine gate_dst (N := 1) rfl ?_); (try (refine gate_guard (by rfl) ?_; dsimp only)); refine box_event ?hg (N := 1) ?hd (cs := #[.int .i64 0, .int .i64 0, .int .i64 0, .int .i64 0, .int .i64 0, .int .i64 0, .int .i64 0]) (t := 32) ?hr ?_; (case hd => rfl); (case hg => rfl); (case hr => first | (go_simp; done) | (go_simp; rfl)); intro gb201 hg w13 hbox hb; have n0_ := Aside0.mk (below_step (by repeat (first | (with_reducible first | exact HB.out | apply below_alloc | apply pw_below_drewN | apply below_drew1) | exact HB.out)) hb); have n1_ := Aside0.mk (hbox); have n2_ := Aside0.mk ((by rw [hg]; exact (below_size (by repeat (first | (with_reducible first | exact HB.out | apply below_alloc | apply pw_below_drewN | apply below_drew1) | exact HB.out))) : w.heap.size ≤ gb201)); have n3_ := Aside0.mk ((by rw [hg]; exact (below_size (by repeat (first | (with_reducible first | exact HB.out | apply below_alloc | apply pw_below_drewN | apply below_drew1) | exact HB.out))) : w.heap.size ≤ gb201)); clear HB; have HB := n0_; have BK201 := n1_; have GW201 := n2_; have GE201 := n3_; clear n0_ n1_ n2_ n3_; clear hb hbox hg; have hcz14_0 : w13.cell? ⟨gb201, 0, none⟩ = some (.int .i64 0) := (blk_cell BK201.out 0).trans rfl; have hcz14_1 : w13.cell? ⟨gb201, 1, none⟩ = some (.int .i64 0) := (blk_cell BK201.out 1).trans rfl; have hcz14_2 : w13.cell? ⟨gb201, 2, none⟩ = some (.int .i64 0) := (blk_cell BK201.out 2).trans rfl; have hcz14_3 : w13.cell? ⟨gb201, 3, none⟩ = some (.int .i64 0) := (blk_cell BK201.out 3).trans rfl; have hcz14_4 : w13.cell? ⟨gb201, 4, none⟩ = some (.int .i64 0) := (blk_cell BK201.out 4).trans rfl; have hcz14_5 : w13.cell? ⟨gb201, 5, none⟩ = some (.int .i64 0) := (blk_cell BK201.out 5).trans rfl; have hcz14_6 : w13.cell? ⟨gb201, 6, none⟩ = some (.int .i64 0) := (blk_cell BK201.out 6).trans rfl; have hfz14_0 := blk_frozen BK201.out 0; have hfz14_1 := blk_frozen BK201.out 1; have hfz14_2 := blk_frozen BK201.out 2; have hfz14_3 := blk_frozen BK201.out 3; have hfz14_4 := blk_frozen BK201.out 4; have hfz14_5 := blk_frozen BK201.out 5; have hfz14_6 := blk_frozen BK201.out 6) | ((with_reducible refine gate_dst (N := 2) rfl ?_); (try (refine gate_guard (by rfl) ?_; dsimp only)); refine box_event ?hg (N := 2) ?hd (cs := #[.int .i64 0, .int .i64 0, .int .i64 0, .int .i64 0, .int .i64 0, .int .i64 0, .int .i64 0]) (t := 32) ?hr ?_; (case hd => rfl); (case hg => rfl); (case hr => first | (go_simp; done) | (go_simp; rfl)); intro gb202 hg w15 hbox hb; have n0_ := Aside0.mk (blk_below (g := gb201) (o := .cells #[.int .i64 17, .int .i64 1, .int .i64 0, .int .i64 16, .int .i64 0, .int .i64 0, .int .i64 0] 32 (0, 0)) (by (with_reducible repeat (first | refine blk_drewN ?_ _ | refine blk_drew ?_ | refine blk_alloc ?_ _)); refine blk_put (cs := #[.int .i64 17, .int .i64 1, .int .i64 0, .int .i64 16, .int .i64 0, .int .i64 0, .int .i64 0]) ?_ 6 _ rfl; (with_reducible repeat (first | refine blk_drewN ?_ _ | refine blk_drew ?_ | refine blk_alloc ?_ _)); refine blk_put (cs := #[.int .i64 17, .int .i64 1, .int .i64 0, .int .i64 16, .int .i64 0, .int .i64 0, .int .i64 0]) ?_ 5 _ rfl; (with_reducible repeat (first | refine blk_drewN ?_ _ | refine blk_drew ?_ | refine blk_alloc ?_ _)); refine blk_put (cs := #[.int .i64 17, .int .i64 1, .int .i64 0, .int .i64 16, .int .i64 0, .int .i64 0, .int .i64 0]) ?_ 4 _ rfl; (with_reducible repeat (first | refine blk_drewN ?_ _ | refine blk_drew ?_ | refine blk_alloc ?_ _)); refine blk_put (cs := #[.int .i64 17, .int .i64 1, .int .i64 0, .int .i64 0, .int .i64 0, .int .i64 0, .int .i64 0]) ?_ 3 _ rfl; (with_reducible repeat (first | refine blk_drewN ?_ _ | refine blk_drew ?_ | refine blk_alloc ?_ _)); refine blk_put (cs := #[.int .i64 17, .int .i64 1, .int .i64 0, .int .i64 0, .int .i64 0, .int .i64 0, .int .i64 0]) ?_ 2 _ rfl; (with_reducible repeat (first | refine blk_drewN ?_ _ | refine blk_drew ?_ | refine blk_alloc ?_ _)); refine blk_put (cs := #[.int .i64 17, .int .i64 0, .int .i64 0, .int .i64 0, .int .i64 0, .int .i64 0, .int .i64 0]) ?_ 1 _ rfl; (with_reducible repeat (first | refine blk_drewN ?_ _ | refine blk_drew ?_ | refine blk_alloc ?_ _)); refine blk_put (cs := #[.int .i64 0, .int .i64 0, .int .i64 0, .int .i64 0, .int .i64 0, .int .i64 0, .int .i64 0]) ?_ 0 _ rfl; (with_reducible repeat (first | refine blk_drewN ?_ _ | refine blk_drew ?_ | refine blk_alloc ?_ _)); exact BK201.out) hb); have n1_ := Aside0.mk (below_step (by repeat (first | (with_reducible first | exact HB.out | apply below_alloc | apply pw_below_drewN | apply below_drew1 | refine below_set ?_ GE201.out) | exact HB.out)) hb); have n2_ := Aside0.mk (hbox); have n3_ := Aside0.mk ((by rw [hg]; exact (below_size (by repeat (first | (with_reducible first | exact HB.out | apply below_alloc | apply pw_below_drewN | apply below_drew1 | refine below_set ?_ GE201.out) | exact HB.out))) : w.heap.size ≤ gb202)); have n4_ := Aside0.mk ((by rw [hg]; exact (below_size (by repeat (first | (with_reducible first | exact HB.out | apply below_alloc | apply pw_below_drewN | apply below_drew1 | refine below_set ?_ GE201.out) | exact HB.out))) : w.heap.size ≤ gb202)); have n5_ := Aside0.mk ((by rw [hg]; exact Nat.ne_of_lt (blk_lt (g := gb201) (o := .cells #[.int .i64 17, .int .i64 1, .int .i64 0, .int .i64 16, .int .i64 0, .int .i64 0, .int .i64 0] 32 (0, 0)) (by (with_reducible repeat (first | refine blk_drewN ?_ _ | refine blk_drew ?_ | refine blk_alloc ?_ _)); refine blk_put (cs := #[.int .i64 17, .int .i64 1, .int .i64 0, .int .i64 16, .int .i64 0, .int .i64 0, .int .i64 0]) ?_ 6 _ rfl; (with_reducible repeat (first | refine blk_drewN ?_ _ | refine blk_drew ?_ | refine blk_alloc ?_ _)); refine blk_put (cs := #[.int .i64 17, .int .i64 1, .int .i64 0, .int .i64 16, .int .i64 0, .int .i64 0, .int .i64 0]) ?_ 5 _ rfl; (with_reducible repeat (first | refine blk_drewN ?_ _ | refine blk_drew ?_ | refine blk_alloc ?_ _)); refine blk_put (cs := #[.int .i64 17, .int .i64 1, .int .i64 0, .int .i64 16, .int .i64 0, .int .i64 0, .int .i64 0]) ?_ 4 _ rfl; (with_reducible repeat (first | refine blk_drewN ?_ _ | refine blk_drew ?_ | refine blk_alloc ?_ _)); refine blk_put (cs := #[.int .i64 17, .int .i64 1, .int .i64 0, .int .i64 0, .int .i64 0, .int .i64 0, .int .i64 0]) ?_ 3 _ rfl; (with_reducible repeat (first | refine blk_drewN ?_ _ | refine blk_drew ?_ | refine blk_alloc ?_ _)); refine blk_put (cs := #[.int .i64 17, .int .i64 1, .int .i64 0, .int .i64 0, .int .i64 0, .int .i64 0, .int .i64 0]) ?_ 2 _ rfl; (with_reducible repeat (first | refine blk_drewN ?_ _ | refine blk_drew ?_ | refine blk_alloc ?_ _)); refine blk_put (cs := #[.int .i64 17, .int .i64 0, .int .i64 0, .int .i64 0, .int .i64 0, .int .i64 0, .int .i64 0]) ?_ 1 _ rfl; (with_reducible repeat (first | refine blk_drewN ?_ _ | refine blk_drew ?_ | refine blk_alloc ?_ _)); refine blk_put (cs := #[.int .i64 0, .int .i64 0, .int .i64 0, .int .i64 0, .int .i64 0, .int .i64 0, .int .i64 0]) ?_ 0 _ rfl; (with_reducible repeat (first | refine blk_drewN ?_ _ | refine blk_drew ?_ | refine blk_alloc ?_ _)); exact BK201.out)) : gb201 ≠ gb202)); have n6_ := Aside0.mk ((by rw [hg]; exact Nat.ne_of_gt (blk_lt (g := gb201) (o := .cells #[.int .i64 17, .int .i64 1, .int .i64 0, .int .i64 16, .int .i64 0, .int .i64 0, .int .i64 0] 32 (0, 0)) (by (with_reducible repeat (first | refine blk_drewN ?_ _ | refine blk_drew ?_ | refine blk_alloc ?_ _)); refine blk_put (cs := #[.int .i64 17, .int .i64 1, .int .i64 0, .int .i64 16, .int .i64 0, .int .i64 0, .int .i64 0]) ?_ 6 _ rfl; (with_reducible repeat (first | refine blk_drewN ?_ _ | refine blk_drew ?_ | refine blk_alloc ?_ _)); refine blk_put (cs := #[.int .i64 17, .int .i64 1, .int .i64 0, .int .i64 16, .int .i64 0, .int .i64 0, .int .i64 0]) ?_ 5 _ rfl; (with_reducible repeat (first | refine blk_drewN ?_ _ | refine blk_drew ?_ | refine blk_alloc ?_ _)); refine blk_put (cs := #[.int .i64 17, .int .i64 1, .int .i64 0, .int .i64 16, .int .i64 0, .int .i64 0, .int .i64 0]) ?_ 4 _ rfl; (with_reducible repeat (first | refine blk_drewN ?_ _ | refine blk_drew ?_ | refine blk_alloc ?_ _)); refine blk_put (cs := #[.int .i64 17, .int .i64 1, .int .i64 0, .int .i64 0, .int .i64 0, .int .i64 0, .int .i64 0]) ?_ 3 _ rfl; (with_reducible repeat (first | refine blk_drewN ?_ _ | refine blk_drew ?_ | refine blk_alloc ?_ _)); refine blk_put (cs := #[.int .i64 17, .int .i64 1, .int .i64 0, .int .i64 0, .int .i64 0, .int .i64 0, .int .i64 0]) ?_ 2 _ rfl; (with_reducible repeat (first | refine blk_drewN ?_ _ | refine blk_drew ?_ | refine blk_alloc ?_ _)); refine blk_put (cs := #[.int .i64 17, .int .i64 0, .int .i64 0, .int .i64 0, .int .i64 0, .int .i64 0, .int .i64 0]) ?_ 1 _ rfl; (with_reducible repeat (first | refine blk_drewN ?_ _ | refine blk_drew ?_ | refine blk_alloc ?_ _)); refine blk_put (cs := #[.int .i64 0, .int .i64 0, .int .i64 0, .int .i64 0, .int .i64 0, .int .i64 0, .int .i64 0]) ?_ 0 _ rfl; (with_reducible repeat (first | refine blk_drewN ?_ _ | refine blk_drew ?_ | refine blk_alloc ?_ _)); exact BK201.out)) : gb202 ≠ gb201)); clear BK201; clear HB; have BK201 := n0_; have HB := n1_; have BK202 := n2_; have GW202 := n3_; have GE202 := n4_; have NB201_202 := n5_; have NB202_201 := n6_; clear n0_ n1_ n2_ n3_ n4_ n5_ n6_; clear hb hbox hg; have hnb16 := NB202_201.out; have hnc16 := NB201_202.out; have hcz17_0 : w15.cell? ⟨gb202, 0, none⟩ = some (.int .i64 0) := (blk_cell BK202.out 0).trans rfl; have hcz17_1 : w15.cell? ⟨gb202, 1, none⟩ = some (.int .i64 0) := (blk_cell BK202.out 1).trans rfl; have hcz17_2 : w15.cell? ⟨gb202, 2, none⟩ = some (.int .i64 0) := (blk_cell BK202.out 2).trans rfl; have hcz17_3 : w15.cell? ⟨gb202, 3, none⟩ = some (.int .i64 0) := (blk_cell BK202.out 3).trans rfl; have hcz17_4 : w15.cell? ⟨gb202, 4, none⟩ = some (.int .i64 0) := (blk_cell BK202.out 4).trans rfl; have hcz17_5 : w15.cell? ⟨gb202, 5, none⟩ = some (.int .i64 0) := (blk_cell BK202.out 5).trans rfl; have hcz17_6 : w15.cell? ⟨gb202, 6, none⟩ = some (.int .i64 0) := (blk_cell BK202.out 6).trans rfl; have hfz17_0 := blk_frozen BK202.out 0; have hfz17_1 := blk_frozen BK202.out 1; have hfz17_2 := blk_frozen BK202.out 2; have hfz17_3 := blk_frozen BK202.out 3; have hfz17_4 := blk_frozen BK202.out 4; have hfz17_5 := blk_frozen BK202.out 5; have hfz17_6 := blk_frozen BK202.out 6; have hcz18_0 : w15.cell? ⟨gb201, 0, none⟩ = some (.int .i64 17) := (blk_cell BK201.out 0).trans rfl; have hcz18_1 : w15.cell? ⟨gb201, 1, none⟩ = some (.int .i64 1) := (blk_cell BK201.out 1).trans rfl; have hcz18_2 : w15.cell? ⟨gb201, 2, none⟩ = some (.int .i64 0) := (blk_cell BK201.out 2).trans rfl; have hcz18_3 : w15.cell? ⟨gb201, 3, none⟩ = some (.int .i64 16) := (blk_cell BK201.out 3).trans rfl; have hcz18_4 : w15.cell? ⟨gb201, 4, none⟩ = some (.int .i64 0) := (blk_cell BK201.out 4).trans rfl; have hcz18_5 : w15.cell? ⟨gb201, 5, none⟩ = some (.int .i64 0) := (blk_cell BK201.out 5).trans rfl; have hcz18_6 : w15.cell? ⟨gb201, 6, none⟩ = some (.int .i64 0) := (blk_cell BK201.out 6).trans rfl; have hfz18_0 := blk_frozen BK201.out 0; have hfz18_1 := blk_frozen BK201.out 1; have hfz18_2 := blk_frozen BK201.out 2; have hfz18_3 := blk_frozen BK201.out 3; have hfz18_4 := blk_frozen BK201.out 4; have hfz18_5 := blk_frozen BK201.out 5; have hfz18_6 := blk_frozen BK201.out 6) | ((with_reducible refine gate_dst (N := 13) rfl ?_); (try (refine gate_guard (by rfl) ?_; dsimp only)); refine Kd.R_lit k32 _ 32 ?hg (N := 13) ?hd (xs := ([(⟨17, 1, 0, 16, 0, 0, 0⟩ : S32), (⟨16, 1, 0, 17, 0, 0, 0⟩ : S32), (⟨17, 1, 0, 16, 0, 0, 0⟩ : S32)] : List (S32))) (inner := [.int .i64 17, .int .i64 1, .int .i64 0, .int .i64 16, .int .i64 0, .int .i64 0, .int .i64 0, .int .i64 16, .int .i64 1, .int .i64 0, .int .i64 17, .int .i64 0, .int .i64 0, .int .i64 0, .int .i64 17, .int .i64 1, .int .i64 0, .int .i64 16, .int .i64 0, .int .i64 0, .int .i64 0]) (ok := fun _ => True) (okp := fun _ => True) ?hr ?hp (fun _ hk => hk) trivial (Below.refl _ _) (Nat.le_refl _) (by simp) ?_; (case hd => rfl); (case hg => rfl); (case hr => first | (go_simp; done) | (go_simp; rfl)); (case hp => exact (Reps.c7 (show Kd.M k32 _ _ _ (⟨17, 1, 0, 16, 0, 0, 0⟩ : S32) [.int .i64 17, .int .i64 1, .int .i64 0, .int .i64 16, .int .i64 0, .int .i64 0, .int .i64 0] from (k32_mkM _ _ _ (⟨17, 1, 0, 16, 0, 0, 0⟩ : S32) )) (Reps.c7 (show Kd.M k32 _ _ _ (⟨16, 1, 0, 17, 0, 0, 0⟩ : S32) [.int .i64 16, .int .i64 1, .int .i64 0, .int .i64 17, .int .i64 0, .int .i64 0, .int .i64 0] from (k32_mkM _ _ _ (⟨16, 1, 0, 17, 0, 0, 0⟩ : S32) )) (Reps.c7 (show Kd.M k32 _ _ _ (⟨17, 1, 0, 16, 0, 0, 0⟩ : S32) [.int .i64 17, .int .i64 1, .int .i64 0, .int .i64 16, .int .i64 0, .int .i64 0, .int .i64 0] from (k32_mkM _ _ _ (⟨17, 1, 0, 16, 0, 0, 0⟩ : S32) )) (Reps.none _ _))))); intro v204 w19 ho20 hb hg_ hnew_; clear hg_ hnew_; (first | rw [← Ny203.out] at ho20 | (simp only [Int.reduceToNat] at ho20; rw [← Ny203.out] at ho20)); have n0_ := Aside0.mk (Kd.R_lower (Kd.R_newB (Kd.R_newB ho20 (g := gb201) (o := .cells #[.int .i64 17, .int .i64 1, .int .i64 0, .int .i64 16, .int .i64 0, .int .i64 0, .int .i64 0] 32 (0, 0)) (by (with_reducible repeat (first | refine blk_drewN ?_ _ | refine blk_drew ?_ | refine blk_alloc ?_ _)); refine blk_far ?_ NB201_202.out _; (with_reducible repeat (first | refine blk_drewN ?_ _ | refine blk_drew ?_ | refine blk_alloc ?_ _)); refine blk_far ?_ NB201_202.out _; (with_reducible repeat (first | refine blk_drewN ?_ _ | refine blk_drew ?_ | refine blk_alloc ?_ _)); refine blk_far ?_ NB201_202.out _; (with_reducible repeat (first | refine blk_drewN ?_ _ | refine blk_drew ?_ | refine blk_alloc ?_ _)); refine blk_far ?_ NB201_202.out _; (with_reducible repeat (first | refine blk_drewN ?_ _ | refine blk_drew ?_ | refine blk_alloc ?_ _)); refine blk_far ?_ NB201_202.out _; (with_reducible repeat (first | refine blk_drewN ?_ _ | refine blk_drew ?_ | refine blk_alloc ?_ _)); refine blk_far ?_ NB201_202.out _; (with_reducible repeat (first | refine blk_drewN ?_ _ | refine blk_drew ?_ | refine blk_alloc ?_ _)); refine blk_far ?_ NB201_202.out _; (with_reducible repeat (first | refine blk_drewN ?_ _ | refine blk_drew ?_ | refine blk_alloc ?_ _)); exact BK201.out)) (g := gb202) (o := .cells #[.int .i64 16, .int .i64 1, .int .i64 0, .int .i64 17, .int .i64 0, .int .i64 0, .int .i64 0] 32 (0, 0)) (by (with_reducible repeat (first | refine blk_drewN ?_ _ | refine blk_drew ?_ | refine blk_alloc ?_ _)); refine blk_put (cs := #[.int .i64 16, .int .i64 1, .int .i64 0, .int .i64 17, .int .i64 0, .int .i64 0, .int .i64 0]) ?_ 6 _ rfl; (with_reducible repeat (first | refine blk_drewN ?_ _ | refine blk_drew ?_ | refine blk_alloc ?_ _)); refine blk_put (cs := #[.int .i64 16, .int .i64 1, .int .i64 0, .int .i64 17, .int .i64 0, .int .i64 0, .int .i64 0]) ?_ 5 _ rfl; (with_reducible repeat (first | refine blk_drewN ?_ _ | refine blk_drew ?_ | refine blk_alloc ?_ _)); refine blk_put (cs := #[.int .i64 16, .int .i64 1, .int .i64 0, .int .i64 17, .int .i64 0, .int .i64 0, .int .i64 0]) ?_ 4 _ rfl; (with_reducible repeat (first | refine blk_drewN ?_ _ | refine blk_drew ?_ | refine blk_alloc ?_ _)); refine blk_put (cs := #[.int .i64 16, .int .i64 1, .int .i64 0, .int .i64 0, .int .i64 0, .int .i64 0, .int .i64 0]) ?_ 3 _ rfl; (with_reducible repeat (first | refine blk_drewN ?_ _ | refine blk_drew ?_ | refine blk_alloc ?_ _)); refine blk_put (cs := #[.int .i64 16, .int .i64 1, .int .i64 0, .int .i64 0, .int .i64 0, .int .i64 0, .int .i64 0]) ?_ 2 _ rfl; (with_reducible repeat (first | refine blk_drewN ?_ _ | refine blk_drew ?_ | refine blk_alloc ?_ _)); refine blk_put (cs := #[.int .i64 16, .int .i64 0, .int .i64 0, .int .i64 0, .int .i64 0, .int .i64 0, .int .i64 0]) ?_ 1 _ rfl; (with_reducible repeat (first | refine blk_drewN ?_ _ | refine blk_drew ?_ | refine blk_alloc ?_ _)); refine blk_put (cs := #[.int .i64 0, .int .i64 0, .int .i64 0, .int .i64 0, .int .i64 0, .int .i64 0, .int .i64 0]) ?_ 0 _ rfl; (with_reducible repeat (first | refine blk_drewN ?_ _ | refine blk_drew ?_ | refine blk_alloc ?_ _)); exact BK202.out)) (below_size (by repeat (first | (with_reducible first | exact HB.out | apply below_alloc | apply pw_below_drewN | apply below_drew1 | refine below_set ?_ GE201.out | refine below_set ?_ GE202.out) | exact HB.out)))); have n1_ := Aside0.mk (blk_below (g := gb201) (o := .cells #[.int .i64 17, .int .i64 1, .int .i64 0, .int .i64 16, .int .i64 0, .int .i64 0, .int .i64 0] 32 (0, 0)) (by (with_reducible repeat (first | refine blk_drewN ?_ _ | refine blk_drew ?_ | refine blk_alloc ?_ _)); refine blk_far ?_ NB201_202.out _; (with_reducible repeat (first | refine blk_drewN ?_ _ | refine blk_drew ?_ | refine blk_alloc ?_ _)); refine blk_far ?_ NB201_202.out _; (with_reducible repeat (first | refine blk_drewN ?_ _ | refine blk_drew ?_ | refine blk_alloc ?_ _)); refine blk_far ?_ NB201_202.out _; (with_reducible repeat (first | refine blk_drewN ?_ _ | refine blk_drew ?_ | refine blk_alloc ?_ _)); refine blk_far ?_ NB201_202.out _; (with_reducible repeat (first | refine blk_drewN ?_ _ | refine blk_drew ?_ | refine blk_alloc ?_ _)); refine blk_far ?_ NB201_202.out _; (with_reducible repeat (first | refine blk_drewN ?_ _ | refine blk_drew ?_ | refine blk_alloc ?_ _)); refine blk_far ?_ NB201_202.out _; (with_reducible repeat (first | refine blk_drewN ?_ _ | refine blk_drew ?_ | refine blk_alloc ?_ _)); refine blk_far ?_ NB201_202.out _; (with_reducible repeat (first | refine blk_drewN ?_ _ | refine blk_drew ?_ | refine blk_alloc ?_ _)); exact BK201.out) hb); have n2_ := Aside0.mk (blk_below (g := gb202) (o := .cells #[.int .i64 16, .int .i64 1, .int .i64 0, .int .i64 17, .int .i64 0, .int .i64 0, .int .i64 0] 32 (0, 0)) (by (with_reducible repeat (first | refine blk_drewN ?_ _ | refine blk_drew ?_ | refine blk_alloc ?_ _)); refine blk_put (cs := #[.int .i64 16, .int .i64 1, .int .i64 0, .int .i64 17, .int .i64 0, .int .i64 0, .int .i64 0]) ?_ 6 _ rfl; (with_reducible repeat (first | refine blk_drewN ?_ _ | refine blk_drew ?_ | refine blk_alloc ?_ _)); refine blk_put (cs := #[.int .i64 16, .int .i64 1, .int .i64 0, .int .i64 17, .int .i64 0, .int .i64 0, .int .i64 0]) ?_ 5 _ rfl; (with_reducible repeat (first | refine blk_drewN ?_ _ | refine blk_drew ?_ | refine blk_alloc ?_ _)); refine blk_put (cs := #[.int .i64 16, .int .i64 1, .int .i64 0, .int .i64 17, .int .i64 0, .int .i64 0, .int .i64 0]) ?_ 4 _ rfl; (with_reducible repeat (first | refine blk_drewN ?_ _ | refine blk_drew ?_ | refine blk_alloc ?_ _)); refine blk_put (cs := #[.int .i64 16, .int .i64 1, .int .i64 0, .int .i64 0, .int .i64 0, .int .i64 0, .int .i64 0]) ?_ 3 _ rfl; (with_reducible repeat (first | refine blk_drewN ?_ _ | refine blk_drew ?_ | refine blk_alloc ?_ _)); refine blk_put (cs := #[.int .i64 16, .int .i64 1, .int .i64 0, .int .i64 0, .int .i64 0, .int .i64 0, .int .i64 0]) ?_ 2 _ rfl; (with_reducible repeat (first | refine blk_drewN ?_ _ | refine blk_drew ?_ | refine blk_alloc ?_ _)); refine blk_put (cs := #[.int .i64 16, .int .i64 0, .int .i64 0, .int .i64 0, .int .i64 0, .int .i64 0, .int .i64 0]) ?_ 1 _ rfl; (with_reducible repeat (first | refine blk_drewN ?_ _ | refine blk_drew ?_ | refine blk_alloc ?_ _)); refine blk_put (cs := #[.int .i64 0, .int .i64 0, .int .i64 0, .int .i64 0, .int .i64 0, .int .i64 0, .int .i64 0]) ?_ 0 _ rfl; (with_reducible repeat (first | refine blk_drewN ?_ _ | refine blk_drew ?_ | refine blk_alloc ?_ _)); exact BK202.out) hb); have n3_ := Aside0.mk (below_step (by repeat (first | (with_reducible first | exact HB.out | apply below_alloc | apply pw_below_drewN | apply below_drew1 | refine below_set ?_ GE201.out | refine below_set ?_ GE202.out) | exact HB.out)) hb); clear BK201; clear BK202; clear HB; have HO205 := n0_; have BK201 := n1_; have BK202 := n2_; have HB := n3_; clear n0_ n1_ n2_ n3_; clear hb ho20; obtain ⟨Ao21, co21, eo21⟩ := Kd.R_slice HO205.out; subst eo21) | ((with_reducible refine gate_callee (f := 11) rfl ?_); refine goesL_ (some 14) rfl rfl Try.func11 (by kernel_rfl) rfl #[.slice Ao21 y203.length co21] rfl (by (try simp only [List.map_toArray, List.map_cons, List.map_nil]); first | done | rfl | (simp only [List.length_drop, List.length_take]; rfl)) ?_; (with_reducible refine (preds_Of.calls k _ _ y203 t206 t207 _ ?side1 ?side2 A1.out).mono ?_); (case side1 => repeat (first | exact (Kd.R_reads' HO205.out).2.2 | (with_reducible refine Kd.C_alloc ?_ _) | (with_reducible refine Kd.C_drewN ?_ _) | (with_reducible refine Kd.C_drew ?_))); (case side2 => exact (Kd.R_reads' HO205.out).2.1); rintro e w22 ⟨v208, rfl, ho0, hb⟩; refine ⟨_, rfl, ?_⟩; have n0_ := Aside0.mk (Kd.R_elder' (by (with_reducible repeat (first | apply Kd.R_alloc | apply Kd.R_drewN | apply Kd.R_drew)); exact HO205.out) (Kd.R_base ho0) hb); have n1_ := Aside0.mk (Kd.R_lower (Kd.R_newB (Kd.R_newB (Kd.R_new' ho0 (Kd.R_lt (by (with_reducible repeat (first | apply Kd.R_alloc | apply Kd.R_drewN | apply Kd.R_drew)); exact HO205.out))) (g := gb201) (o := .cells #[.int .i64 17, .int .i64 1, .int .i64 0, .int .i64 16, .int .i64 0, .int .i64 0, .int .i64 0] 32 (0, 0)) (by (with_reducible repeat (first | refine blk_drewN ?_ _ | refine blk_drew ?_ | refine blk_alloc ?_ _)); exact BK201.out)) (g := gb202) (o := .cells #[.int .i64 16, .int .i64 1, .int .i64 0, .int .i64 17, .int .i64 0, .int .i64 0, .int .i64 0] 32 (0, 0)) (by (with_reducible repeat (first | refine blk_drewN ?_ _ | refine blk_drew ?_ | refine blk_alloc ?_ _)); exact BK202.out)) (below_size (by repeat (first | (with_reducible first | exact HB.out | apply below_alloc | apply pw_below_drewN | apply below_drew1 | refine below_set ?_ GE201.out | refine below_set ?_ GE202.out) | exact HB.out)))); have n2_ := Aside0.mk (blk_below (g := gb201) (o := .cells #[.int .i64 17, .int .i64 1, .int .i64 0, .int .i64 16, .int .i64 0, .int .i64 0, .int .i64 0] 32 (0, 0)) (by (with_reducible repeat (first | refine blk_drewN ?_ _ | refine blk_drew ?_ | refine blk_alloc ?_ _)); exact BK201.out) hb); have n3_ := Aside0.mk (blk_below (g := gb202) (o := .cells #[.int .i64 16, .int .i64 1, .int .i64 0, .int .i64 17, .int .i64 0, .int .i64 0, .int .i64 0] 32 (0, 0)) (by (with_reducible repeat (first | refine blk_drewN ?_ _ | refine blk_drew ?_ | refine blk_alloc ?_ _)); exact BK202.out) hb); have n4_ := Aside0.mk (below_step (by repeat (first | (with_reducible first | exact HB.out | apply below_alloc | apply pw_below_drewN | apply below_drew1 | refine below_set ?_ GE201.out | refine below_set ?_ GE202.out) | exact HB.out)) hb); clear HO205; clear BK201; clear BK202; clear HB; have HO205 := n0_; have HO209 := n1_; have BK201 := n2_; have BK202 := n3_; have HB := n4_; clear n0_ n1_ n2_ n3_ n4_; (try clear hb); (try clear hb2); (try clear hk); (try clear hi); (try clear ho0); have hcz23_0 : w22.cell? ⟨gb201, 0, none⟩ = some (.int .i64 17) := (blk_cell BK201.out 0).trans rfl; have hcz23_1 : w22.cell? ⟨gb201, 1, none⟩ = some (.int .i64 1) := (blk_cell BK201.out 1).trans rfl; have hcz23_2 : w22.cell? ⟨gb201, 2, none⟩ = some (.int .i64 0) := (blk_cell BK201.out 2).trans rfl; have hcz23_3 : w22.cell? ⟨gb201, 3, none⟩ = some (.int .i64 16) := (blk_cell BK201.out 3).trans rfl; have hcz23_4 : w22.cell? ⟨gb201, 4, none⟩ = some (.int .i64 0) := (blk_cell BK201.out 4).trans rfl; have hcz23_5 : w22.cell? ⟨gb201, 5, none⟩ = some (.int .i64 0) := (blk_cell BK201.out 5).trans rfl; have hcz23_6 : w22.cell? ⟨gb201, 6, none⟩ = some (.int .i64 0) := (blk_cell BK201.out 6).trans rfl; have hfz23_0 := blk_frozen BK201.out 0; have hfz23_1 := blk_frozen BK201.out 1; have hfz23_2 := blk_frozen BK201.out 2; have hfz23_3 := blk_frozen BK201.out 3; have hfz23_4 := blk_frozen BK201.out 4; have hfz23_5 := blk_frozen BK201.out 5; have hfz23_6 := blk_frozen BK201.out 6) | ((with_reducible refine gate_dst (N := 20) rfl ?_); (try (refine gate_guard (by rfl) ?_; dsimp only)); refine Kd.R_lit k32 _ 32 ?hg (N := 20) ?hd (xs := ([(⟨17, 1, 0, 16, 0, 0, 0⟩ : S32), (⟨17, 1, 0, 18, 0, 0, 0⟩ : S32)] : List (S32))) (inner := [.int .i64 17, .int .i64 1, .int .i64 0, .int .i64 16, .int .i64 0, .int .i64 0, .int .i64 0, .int .i64 17, .int .i64 1, .int .i64 0, .int .i64 18, .int .i64 0, .int .i64 0, .int .i64 0]) (ok := fun _ => True) (okp := fun _ => True) ?hr ?hp (fun _ hk => hk) trivial (Below.refl _ _) (Nat.le_refl _) (by simp) ?_; (case hd => rfl); (case hg => rfl); (case hr => first | (go_simp; done) | (go_simp; rfl)); (case hp => exact (Reps.c7 (show Kd.M k32 _ _ _ (⟨17, 1, 0, 16, 0, 0, 0⟩ : S32) [.int .i64 17, .int .i64 1, .int .i64 0, .int .i64 16, .int .i64 0, .int .i64 0, .int .i64 0] from (k32_mkM _ _ _ (⟨17, 1, 0, 16, 0, 0, 0⟩ : S32) )) (Reps.c7 (show Kd.M k32 _ _ _ (⟨17, 1, 0, 18, 0, 0, 0⟩ : S32) [.int .i64 17, .int .i64 1, .int .i64 0, .int .i64 18, .int .i64 0, .int .i64 0, .int .i64 0] from (k32_mkM _ _ _ (⟨17, 1, 0, 18, 0, 0, 0⟩ : S32) )) (Reps.none _ _)))); intro v211 w24 ho25 hb hg_ hnew_; clear hg_ hnew_; (first | rw [← Ny210.out] at ho25 | (simp only [Int.reduceToNat] at ho25; rw [← Ny210.out] at ho25)); have n0_ := Aside0.mk (Kd.R_elder' (by (with_reducible repeat (first | apply Kd.R_alloc | apply Kd.R_drewN | apply Kd.R_drew)); exact HO205.out) (Kd.R_base ho25) hb); have n1_ := Aside0.mk (Kd.R_elder' (by (with_reducible repeat (first | apply Kd.R_alloc | apply Kd.R_drewN | apply Kd.R_drew)); exact HO209.out) (Kd.R_base ho25) hb); have n2_ := Aside0.mk (Kd.R_lower (Kd.R_newB (Kd.R_newB (Kd.R_new' (Kd.R_new' ho25 (Kd.R_lt (by (with_reducible repeat (first | apply Kd.R_alloc | apply Kd.R_drewN | apply Kd.R_drew)); exact HO205.out))) (Kd.R_lt (by (with_reducible repeat (first | apply Kd.R_alloc | apply Kd.R_drewN | apply Kd.R_drew)); exact HO209.out))) (g := gb201) (o := .cells #[.int .i64 17, .int .i64 1, .int .i64 0, .int .i64 16, .int .i64 0, .int .i64 0, .int .i64 0] 32 (0, 0)) (by (with_reducible repeat (first | refine blk_drewN ?_ _ | refine blk_drew ?_ | refine blk_alloc ?_ _)); exact BK201.out)) (g := gb202) (o := .cells #[.int .i64 16, .int .i64 1, .int .i64 0, .int .i64 17, .int .i64 0, .int .i64 0, .int .i64 0] 32 (0, 0)) (by (with_reducible repeat (first | refine blk_drewN ?_ _ | refine blk_drew ?_ | refine blk_alloc ?_ _)); exact BK202.out)) (below_size (by repeat (first | (with_reducible first | exact HB.out | apply below_alloc | apply pw_below_drewN | apply below_drew1 | refine below_set ?_ GE201.out | refine below_set ?_ GE202.out) | exact HB.out)))); have n3_ := Aside0.mk (blk_below (g := gb201) (o := .cells #[.int .i64 17, .int .i64 1, .int .i64 0, .int .i64 16, .int .i64 0, .int .i64 0, .int .i64 0] 32 (0, 0)) (by (with_reducible repeat (first | refine blk_drewN ?_ _ | refine blk_drew ?_ | refine blk_alloc ?_ _)); exact BK201.out) hb); have n4_ := Aside0.mk (blk_below (g := gb202) (o := .cells #[.int .i64 16, .int .i64 1, .int .i64 0, .int .i64 17, .int .i64 0, .int .i64 0, .int .i64 0] 32 (0, 0)) (by (with_reducible repeat (first | refine blk_drewN ?_ _ | refine blk_drew ?_ | refine blk_alloc ?_ _)); exact BK202.out) hb); have n5_ := Aside0.mk (below_step (by repeat (first | (with_reducible first | exact HB.out | apply below_alloc | apply pw_below_drewN | apply below_drew1 | refine below_set ?_ GE201.out | refine below_set ?_ GE202.out) | exact HB.out)) hb); clear HO205; clear HO209; clear BK201; clear BK202; clear HB; have HO205 := n0_; have HO209 := n1_; have HO212 := n2_; have BK201 := n3_; have BK202 := n4_; have HB := n5_; clear n0_ n1_ n2_ n3_ n4_ n5_; clear hb ho25; obtain ⟨Ao26, co26, eo26⟩ := Kd.R_slice HO212.out; subst eo26) | ((with_reducible refine gate_callee (f := 11) rfl ?_); refine goesL_ (some 21) rfl rfl Try.func11 (by kernel_rfl) rfl #[.slice Ao26 y210.length co26] rfl (by (try simp only [List.map_toArray, List.map_cons, List.map_nil]); first | done | rfl | (simp only [List.length_drop, List.length_take]; rfl)) ?_; (with_reducible refine (preds_Of.calls k _ _ y210 t213 t214 _ ?side1 ?side2 A2.out).mono ?_); (case side1 => repeat (first | exact (Kd.R_reads' HO212.out).2.2 | (with_reducible refine Kd.C_alloc ?_ _) | (with_reducible refine Kd.C_drewN ?_ _) | (with_reducible refine Kd.C_drew ?_))); (case side2 => exact (Kd.R_reads' HO212.out).2.1); rintro e w27 ⟨v215, rfl, ho0, hb⟩; refine ⟨_, rfl, ?_⟩; have n0_ := Aside0.mk (Kd.R_elder' (by (with_reducible repeat (first | apply Kd.R_alloc | apply Kd.R_drewN | apply Kd.R_drew)); exact HO205.out) (Kd.R_base ho0) hb); have n1_ := Aside0.mk (Kd.R_elder' (by (with_reducible repeat (first | apply Kd.R_alloc | apply Kd.R_drewN | apply Kd.R_drew)); exact HO209.out) (Kd.R_base ho0) hb); have n2_ := Aside0.mk (Kd.R_elder' (by (with_reducible repeat (first | apply Kd.R_alloc | apply Kd.R_drewN | apply Kd.R_drew)); exact HO212.out) (Kd.R_base ho0) hb); have n3_ := Aside0.mk (Kd.R_lower (Kd.R_newB (Kd.R_newB (Kd.R_new' (Kd.R_new' (Kd.R_new' ho0 (Kd.R_lt (by (with_reducible repeat (first | apply Kd.R_alloc | apply Kd.R_drewN | apply Kd.R_drew)); exact HO205.out))) (Kd.R_lt (by (with_reducible repeat (first | apply Kd.R_alloc | apply Kd.R_drewN | apply Kd.R_drew)); exact HO209.out))) (Kd.R_lt (by (with_reducible repeat (first | apply Kd.R_alloc | apply Kd.R_drewN | apply Kd.R_drew)); exact HO212.out))) (g := gb201) (o := .cells #[.int .i64 17, .int .i64 1, .int .i64 0, .int .i64 16, .int .i64 0, .int .i64 0, .int .i64 0] 32 (0, 0)) (by (with_reducible repeat (first | refine blk_drewN ?_ _ | refine blk_drew ?_ | refine blk_alloc ?_ _)); exact BK201.out)) (g := gb202) (o := .cells #[.int .i64 16, .int .i64 1, .int .i64 0, .int .i64 17, .int .i64 0, .int .i64 0, .int .i64 0] 32 (0, 0)) (by (with_reducible repeat (first | refine blk_drewN ?_ _ | refine blk_drew ?_ | refine blk_alloc ?_ _)); exact BK202.out)) (below_size (by repeat (first | (with_reducible first | exact HB.out | apply below_alloc | apply pw_below_drewN | apply below_drew1 | refine below_set ?_ GE201.out | refine below_set ?_ GE202.out) | exact HB.out)))); have n4_ := Aside0.mk (blk_below (g := gb201) (o := .cells #[.int .i64 17, .int .i64 1, .int .i64 0, .int .i64 16, .int .i64 0, .int .i64 0, .int .i64 0] 32 (0, 0)) (by (with_reducible repeat (first | refine blk_drewN ?_ _ | refine blk_drew ?_ | refine blk_alloc ?_ _)); exact BK201.out) hb); have n5_ := Aside0.mk (blk_below (g := gb202) (o := .cells #[.int .i64 16, .int .i64 1, .int .i64 0, .int .i64 17, .int .i64 0, .int .i64 0, .int .i64 0] 32 (0, 0)) (by (with_reducible repeat (first | refine blk_drewN ?_ _ | refine blk_drew ?_ | refine blk_alloc ?_ _)); exact BK202.out) hb); have n6_ := Aside0.mk (below_step (by repeat (first | (with_reducible first | exact HB.out | apply below_alloc | apply pw_below_drewN | apply below_drew1 | refine below_set ?_ GE201.out | refine below_set ?_ GE202.out) | exact HB.out)) hb); clear HO205; clear HO209; clear HO212; clear BK201; clear BK202; clear HB; have HO205 := n0_; have HO209 := n1_; have HO212 := n2_; have HO216 := n3_; have BK201 := n4_; have BK202 := n5_; have HB := n6_; clear n0_ n1_ n2_ n3_ n4_ n5_ n6_; (try clear hb); (try clear hb2); (try clear hk); (try clear hi); (try clear ho0)))
                  have n0_ := Aside0.mk (Kd.R_drew HO205.out)
                  have n1_ := Aside0.mk (Kd.R_drew HO209.out)
                  have n2_ := Aside0.mk (Kd.R_drew HO212.out)
                  have n3_ := Aside0.mk (Kd.R_drew HO216.out)
                  have n4_ := Aside0.mk (blk_drew BK201.out)
                  have n5_ := Aside0.mk (blk_drew BK202.out)
                  have n6_ := Aside0.mk (below_drew1 HB.out)
                  clear HO205
                  clear HO209
                  clear HO212
                  clear HO216
                  clear BK201
                  clear BK202
                  clear HB
                  have HO205 := n0_
                  have HO209 := n1_
                  have HO212 := n2_
                  have HO216 := n3_
                  have BK201 := n4_
                  have BK202 := n5_
                  have HB := n6_
                  clear n0_ n1_ n2_ n3_ n4_ n5_ n6_
                  obtain ⟨Ao29, co29, eo29⟩ := Kd.R_slice HO209.out
                  (first | subst eo29 | (injection eo29 with f1_ f2_ f3_; have f4_ := f1_.symm; have f5_ := f3_.symm; clear f1_ f2_ f3_; subst f4_; subst f5_))
                  have p217 : 0 ≤ (0 : Int) := (by omega)
                  have q217 : 0 < (t206.length : Int) := of_decide_eq_true (by first | (with_reducible assumption) | assumption)
                  obtain ⟨ad217, e217, hx217_0, hx217_1, hx217_2, hx217_3, hx217_4, hx217_5, hx217_6⟩ := at_T32 (Kd.R_reads' HO209.out).2.2 0 p217 q217
                  cases e217
                  have qi217 : (0 < t206.length) = True := eq_true (by omega)
                  (try rw [show ((0 : Int)).toNat = 0 from rfl] at hx217_0)
                  (try rw [show 0 * 7 = 0 from rfl] at hx217_0)
                  (try rw [Addr.add_zero'] at hx217_0)
                  (try rw [show ((0 : Int)).toNat = 0 from rfl] at hx217_1)
                  (try rw [show 0 * 7 = 0 from rfl] at hx217_1)
                  (try rw [Addr.add_zero'] at hx217_1)
                  (try rw [show ((0 : Int)).toNat = 0 from rfl] at hx217_2)
                  (try rw [show 0 * 7 = 0 from rfl] at hx217_2)
                  (try rw [Addr.add_zero'] at hx217_2)
                  (try rw [show ((0 : Int)).toNat = 0 from rfl] at hx217_3)
                  (try rw [show 0 * 7 = 0 from rfl] at hx217_3)
                  (try rw [Addr.add_zero'] at hx217_3)
                  (try rw [show ((0 : Int)).toNat = 0 from rfl] at hx217_4)
                  (try rw [show 0 * 7 = 0 from rfl] at hx217_4)
                  (try rw [Addr.add_zero'] at hx217_4)
                  (try rw [show ((0 : Int)).toNat = 0 from rfl] at hx217_5)
                  (try rw [show 0 * 7 = 0 from rfl] at hx217_5)
                  (try rw [Addr.add_zero'] at hx217_5)
                  (try rw [show ((0 : Int)).toNat = 0 from rfl] at hx217_6)
                  (try rw [show 0 * 7 = 0 from rfl] at hx217_6)
                  (try rw [Addr.add_zero'] at hx217_6)
                  replace p217 := eq_true p217
                  replace q217 := eq_true q217
                  have p218 : 0 ≤ (1 : Int) := (by omega)
                  have q218 : 1 < (t206.length : Int) := of_decide_eq_true (by first | (with_reducible assumption) | assumption)
                  obtain ⟨ad218, e218, hx218_0, hx218_1, hx218_2, hx218_3, hx218_4, hx218_5, hx218_6⟩ := at_T32 (Kd.R_reads' HO209.out).2.2 1 p218 q218
                  obtain rfl : ad217 = ad218 := (by injection e218)
                  (try simp only [show (1 : Int).toNat = 1 from rfl, Nat.reduceMul, Nat.reduceEqDiff, Go.Addr.add, ↓reduceIte] at hx218_0)
                  (try simp only [show (1 : Int).toNat = 1 from rfl, Nat.reduceMul, Nat.reduceEqDiff, Go.Addr.add, ↓reduceIte] at hx218_1)
                  (try simp only [show (1 : Int).toNat = 1 from rfl, Nat.reduceMul, Nat.reduceEqDiff, Go.Addr.add, ↓reduceIte] at hx218_2)
                  (try simp only [show (1 : Int).toNat = 1 from rfl, Nat.reduceMul, Nat.reduceEqDiff, Go.Addr.add, ↓reduceIte] at hx218_3)
                  (try simp only [show (1 : Int).toNat = 1 from rfl, Nat.reduceMul, Nat.reduceEqDiff, Go.Addr.add, ↓reduceIte] at hx218_4)
                  (try simp only [show (1 : Int).toNat = 1 from rfl, Nat.reduceMul, Nat.reduceEqDiff, Go.Addr.add, ↓reduceIte] at hx218_5)
                  (try simp only [show (1 : Int).toNat = 1 from rfl, Nat.reduceMul, Nat.reduceEqDiff, Go.Addr.add, ↓reduceIte] at hx218_6)
                  have qi218 : (1 < t206.length) = True := eq_true (by omega)
                  (try rw [show ((1 : Int)).toNat = 1 from rfl] at hx218_0)
                  (try rw [show 1 * 7 = 7 from rfl] at hx218_0)
                  (try rw [show ((1 : Int)).toNat = 1 from rfl] at hx218_1)
                  (try rw [show 1 * 7 = 7 from rfl] at hx218_1)
                  (try rw [show ((1 : Int)).toNat = 1 from rfl] at hx218_2)
                  (try rw [show 1 * 7 = 7 from rfl] at hx218_2)
                  (try rw [show ((1 : Int)).toNat = 1 from rfl] at hx218_3)
                  (try rw [show 1 * 7 = 7 from rfl] at hx218_3)
                  (try rw [show ((1 : Int)).toNat = 1 from rfl] at hx218_4)
                  (try rw [show 1 * 7 = 7 from rfl] at hx218_4)
                  (try rw [show ((1 : Int)).toNat = 1 from rfl] at hx218_5)
                  (try rw [show 1 * 7 = 7 from rfl] at hx218_5)
                  (try rw [show ((1 : Int)).toNat = 1 from rfl] at hx218_6)
                  (try rw [show 1 * 7 = 7 from rfl] at hx218_6)
                  replace p218 := eq_true p218
                  replace q218 := eq_true q218
                  refine start_ (n := 38) (S := fun w' => w'.cell? ⟨gb202, 0, none⟩ = some (.int .i64 16) ∧ w'.cell? ⟨gb202, 1, none⟩ = some (.int .i64 1) ∧ w'.cell? ⟨gb202, 2, none⟩ = some (.int .i64 0) ∧ w'.cell? ⟨gb202, 3, none⟩ = some (.int .i64 17) ∧ w'.cell? ⟨gb202, 4, none⟩ = some (.int .i64 0) ∧ w'.cell? ⟨gb202, 5, none⟩ = some (.int .i64 0) ∧ w'.cell? ⟨gb202, 6, none⟩ = some (.int .i64 0) ∧ w'.cell? ⟨gb201, 0, none⟩ = some (.int .i64 17) ∧ w'.cell? ⟨gb201, 1, none⟩ = some (.int .i64 1) ∧ w'.cell? ⟨gb201, 2, none⟩ = some (.int .i64 0) ∧ w'.cell? ⟨gb201, 3, none⟩ = some (.int .i64 16) ∧ w'.cell? ⟨gb201, 4, none⟩ = some (.int .i64 0) ∧ w'.cell? ⟨gb201, 5, none⟩ = some (.int .i64 0) ∧ w'.cell? ⟨gb201, 6, none⟩ = some (.int .i64 0) ∧ w'.cell? ad217 = some (.int .i64 ((rd_T32 t206 0).f0)) ∧ w'.cell? ⟨ad217.block, ad217.off + 1, none⟩ = some (.int .i64 ((rd_T32 t206 0).f1)) ∧ w'.cell? ⟨ad217.block, ad217.off + 2, none⟩ = some (.int .i64 ((rd_T32 t206 0).f2)) ∧ w'.cell? ⟨ad217.block, ad217.off + 3, none⟩ = some (.int .i64 ((rd_T32 t206 0).f3)) ∧ w'.cell? ⟨ad217.block, ad217.off + 4, none⟩ = some (.int .i64 ((rd_T32 t206 0).f4)) ∧ w'.cell? ⟨ad217.block, ad217.off + 5, none⟩ = some (.int .i64 ((rd_T32 t206 0).f5)) ∧ w'.cell? ⟨ad217.block, ad217.off + 6, none⟩ = some (.int .i64 ((rd_T32 t206 0).f6)) ∧ w'.cell? ⟨ad217.block, ad217.off + 7, none⟩ = some (.int .i64 ((rd_T32 t206 1).f0)) ∧ w'.cell? ⟨ad217.block, ad217.off + 7 + 1, none⟩ = some (.int .i64 ((rd_T32 t206 1).f1)) ∧ w'.cell? ⟨ad217.block, ad217.off + 7 + 2, none⟩ = some (.int .i64 ((rd_T32 t206 1).f2)) ∧ w'.cell? ⟨ad217.block, ad217.off + 7 + 3, none⟩ = some (.int .i64 ((rd_T32 t206 1).f3)) ∧ w'.cell? ⟨ad217.block, ad217.off + 7 + 4, none⟩ = some (.int .i64 ((rd_T32 t206 1).f4)) ∧ w'.cell? ⟨ad217.block, ad217.off + 7 + 5, none⟩ = some (.int .i64 ((rd_T32 t206 1).f5)) ∧ w'.cell? ⟨ad217.block, ad217.off + 7 + 6, none⟩ = some (.int .i64 ((rd_T32 t206 1).f6))) (ds := []) #[false, false, false, false, false, false, false, false, false, false, false, false, false, false, false, false, false, false, false, false, false, false, false, false, false, false, false, false, false, false, false, false, false, false, false, false, false, false] (by kernel_rfl) rfl rfl ⟨(blk_cell BK202.out 0).trans rfl, (blk_cell BK202.out 1).trans rfl, (blk_cell BK202.out 2).trans rfl, (blk_cell BK202.out 3).trans rfl, (blk_cell BK202.out 4).trans rfl, (blk_cell BK202.out 5).trans rfl, (blk_cell BK202.out 6).trans rfl, (blk_cell BK201.out 0).trans rfl, (blk_cell BK201.out 1).trans rfl, (blk_cell BK201.out 2).trans rfl, (blk_cell BK201.out 3).trans rfl, (blk_cell BK201.out 4).trans rfl, (blk_cell BK201.out 5).trans rfl, (blk_cell BK201.out 6).trans rfl, hx217_0, hx217_1, hx217_2, hx217_3, hx217_4, hx217_5, hx217_6, hx218_0, hx218_1, hx218_2, hx218_3, hx218_4, hx218_5, hx218_6⟩ (fun hHeld => ?_); refine with_tabW lictorlaw03_alive.tab5 lictorlaw03_alive.bits5 (fun HT_ HW_ => ?_)
                  generalize w27.drew = w28 at HO205 HO209 HO212 HO216 BK201 BK202 HB hx217_0 hx217_1 hx217_2 hx217_3 hx217_4 hx217_5 hx217_6 hx218_0 hx218_1 hx218_2 hx218_3 hx218_4 hx218_5 hx218_6 hHeld ⊢
                  refine pure_ (i := 0) (N := some 24) (v := ?_) (a' := ?_) #[true, false, false, false, false, false, false, false, false, false, false, false, false, false, false, false, false, false, false, false, false, false, false, false, false, false, false, false, false, false, false, false, false, false, false, false, false, false] rfl rfl (any_of HT_.out (by kernel_rfl)) (fun _ _ _ h => h) (Or.inl ⟨by rfl, ?_⟩) ?_ ?_
                  rotate_left
                  · intro w'
                    go_simp
                    with_reducible rfl
                  rotate_left
                  · simp only [Act.put, List.setIfInBounds_toArray, List.set_cons_zero, List.set_cons_succ, i64_w, i32_w]
                    rfl
                  refine pure_ (i := 1) (N := some 25) (v := ?_) (a' := ?_) #[true, true, false, false, false, false, false, false, false, false, false, false, false, false, false, false, false, false, false, false, false, false, false, false, false, false, false, false, false, false, false, false, false, false, false, false, false, false] rfl rfl (any_of HT_.out (by kernel_rfl)) (fun _ _ _ h => h) (Or.inl ⟨by rfl, ?_⟩) ?_ ?_
                  rotate_left
                  · intro w'
                    go_simp
                    with_reducible rfl
                  rotate_left
                  · simp only [Act.put, List.setIfInBounds_toArray, List.set_cons_zero, List.set_cons_succ, i64_w, i32_w]
                    rfl
                  refine pure_ (i := 2) (N := some 26) (v := ?_) (a' := ?_) #[true, true, true, false, false, false, false, false, false, false, false, false, false, false, false, false, false, false, false, false, false, false, false, false, false, false, false, false, false, false, false, false, false, false, false, false, false, false] rfl rfl (any_of HT_.out (by kernel_rfl)) (fun _ _ _ h => h) (Or.inl ⟨by rfl, ?_⟩) ?_ ?_
                  rotate_left
                  · intro w'
                    go_simp
                    with_reducible rfl
                  rotate_left
                  · simp only [Act.put, List.setIfInBounds_toArray, List.set_cons_zero, List.set_cons_succ, i64_w, i32_w]
                    rfl
                  refine pure_ (i := 3) (N := some 27) (v := ?_) (a' := ?_) #[true, true, true, true, false, false, false, false, false, false, false, false, false, false, false, false, false, false, false, false, false, false, false, false, false, false, false, false, false, false, false, false, false, false, false, false, false, false] rfl rfl (any_of HT_.out (by kernel_rfl)) (fun _ _ _ h => h) (Or.inl ⟨by rfl, ?_⟩) ?_ ?_
                  rotate_left
                  · intro w'
                    go_simp
                    with_reducible rfl
                  rotate_left
                  · simp only [Act.put, List.setIfInBounds_toArray, List.set_cons_zero, List.set_cons_succ, i64_w, i32_w]
                    rfl
                  refine pure_ (i := 4) (N := some 28) (v := ?_) (a' := ?_) #[true, true, true, true, true, false, false, false, false, false, false, false, false, false, false, false, false, false, false, false, false, false, false, false, false, false, false, false, false, false, false, false, false, false, false, false, false, false] rfl rfl (any_of HT_.out (by kernel_rfl)) (fun _ _ _ h => h) (Or.inl ⟨by rfl, ?_⟩) ?_ ?_
                  rotate_left
                  · intro w'
                    go_simp
                    with_reducible rfl
                  rotate_left
                  · simp only [Act.put, List.setIfInBounds_toArray, List.set_cons_zero, List.set_cons_succ, i64_w, i32_w]
                    rfl
                  refine pure_ (i := 5) (N := some 29) (v := ?_) (a' := ?_) #[true, true, true, true, true, true, false, false, false, false, false, false, false, false, false, false, false, false, false, false, false, false, false, false, false, false, false, false, false, false, false, false, false, false, false, false, false, false] rfl rfl (any_of HT_.out (by kernel_rfl)) (fun _ _ _ h => h) (Or.inl ⟨by rfl, ?_⟩) ?_ ?_
                  rotate_left
                  · intro w'
                    go_simp
                    with_reducible rfl
                  rotate_left
                  · simp only [Act.put, List.setIfInBounds_toArray, List.set_cons_zero, List.set_cons_succ, i64_w, i32_w]
                    rfl
                  refine pure_ (i := 6) (N := some 30) (v := ?_) (a' := ?_) #[true, true, true, true, true, true, true, false, false, false, false, false, false, false, false, false, false, false, false, false, false, false, false, false, false, false, false, false, false, false, false, false, false, false, false, false, false, false] rfl rfl (any_of HT_.out (by kernel_rfl)) (fun _ _ _ h => h) (Or.inl ⟨by rfl, ?_⟩) ?_ ?_
                  rotate_left
                  · intro w'
                    go_simp
                    with_reducible rfl
                  rotate_left
                  · simp only [Act.put, List.setIfInBounds_toArray, List.set_cons_zero, List.set_cons_succ, i64_w, i32_w]
                    rfl
                  refine pure_ (i := 7) (N := some 31) (v := ?_) (a' := ?_) #[true, true, true, true, true, true, true, true, false, false, false, false, false, false, false, false, false, false, false, false, false, false, false, false, false, false, false, false, false, false, false, false, false, false, false, false, false, false] rfl rfl (any_of HT_.out (by kernel_rfl)) (fun _ _ _ h => h) (Or.inl ⟨by rfl, ?_⟩) ?_ ?_
                  rotate_left
                  · intro w'
                    go_simp
                    with_reducible rfl
                  rotate_left
                  · simp only [Act.put, List.setIfInBounds_toArray, List.set_cons_zero, List.set_cons_succ, i64_w, i32_w]
                    rfl
                  refine pure_ (i := 8) (N := some 32) (v := ?_) (a' := ?_) #[true, true, true, true, true, true, true, true, true, false, false, false, false, false, false, false, false, false, false, false, false, false, false, false, false, false, false, false, false, false, false, false, false, false, false, false, false, false] rfl rfl (any_of HT_.out (by kernel_rfl)) (fun _ _ _ h => h) (Or.inl ⟨by rfl, ?_⟩) ?_ ?_
                  rotate_left
                  · intro w'
                    go_simp
                    with_reducible rfl
                  rotate_left
                  · simp only [Act.put, List.setIfInBounds_toArray, List.set_cons_zero, List.set_cons_succ, i64_w, i32_w]
                    rfl
                  refine pure_ (i := 9) (N := some 33) (v := ?_) (a' := ?_) #[true, true, true, true, true, true, true, true, true, true, false, false, false, false, false, false, false, false, false, false, false, false, false, false, false, false, false, false, false, false, false, false, false, false, false, false, false, false] rfl rfl (any_of HT_.out (by kernel_rfl)) (fun _ _ _ h => h) (Or.inl ⟨by rfl, ?_⟩) ?_ ?_
                  rotate_left
                  · intro w'
                    go_simp
                    with_reducible rfl
                  rotate_left
                  · simp only [Act.put, List.setIfInBounds_toArray, List.set_cons_zero, List.set_cons_succ, i64_w, i32_w]
                    rfl
                  refine take_ (i := 10) (N := some 34) (v := ?_) (a' := ?_) #[true, true, true, true, true, true, true, true, true, true, true, false, false, false, false, false, false, false, false, false, false, false, false, false, false, false, false, false, false, false, false, false, false, false, false, false, false, false] rfl rfl (take_ofW HT_.out HW_.out (by kernel_rfl)) (fun _ _ _ h => h) (Or.inl ⟨by rfl, ?_⟩) hHeld ?_ ?_
                  rotate_left
                  · rintro w' ⟨s0, s1, s2, s3, s4, s5, s6, s7, s8, s9, s10, s11, s12, s13, s14, s15, s16, s17, s18, s19, s20, s21, s22, s23, s24, s25, s26, s27⟩
                    go_simp
                    with_reducible rfl
                  rotate_left
                  · simp only [Act.put, List.setIfInBounds_toArray, List.set_cons_zero, List.set_cons_succ, i64_w, i32_w]
                    rfl
                  refine take_ (i := 11) (N := some 35) (v := ?_) (a' := ?_) #[true, true, true, true, true, true, true, true, true, true, true, true, false, false, false, false, false, false, false, false, false, false, false, false, false, false, false, false, false, false, false, false, false, false, false, false, false, false] rfl rfl (take_ofW HT_.out HW_.out (by kernel_rfl)) (fun _ _ _ h => h) (Or.inl ⟨by rfl, ?_⟩) hHeld ?_ ?_
                  rotate_left
                  · rintro w' ⟨s0, s1, s2, s3, s4, s5, s6, s7, s8, s9, s10, s11, s12, s13, s14, s15, s16, s17, s18, s19, s20, s21, s22, s23, s24, s25, s26, s27⟩
                    go_simp
                    with_reducible rfl
                  rotate_left
                  · simp only [Act.put, List.setIfInBounds_toArray, List.set_cons_zero, List.set_cons_succ, i64_w, i32_w]
                    rfl
                  refine pure_ (i := 12) (N := some 36) (v := ?_) (a' := ?_) #[true, true, true, true, true, true, true, true, true, true, true, true, true, false, false, false, false, false, false, false, false, false, false, false, false, false, false, false, false, false, false, false, false, false, false, false, false, false] rfl rfl (any_of HT_.out (by kernel_rfl)) (fun _ _ _ h => h) (Or.inl ⟨by rfl, ?_⟩) ?_ ?_
                  rotate_left
                  · intro w'
                    go_simp
                    with_reducible rfl
                  rotate_left
                  · simp only [Act.put, List.setIfInBounds_toArray, List.set_cons_zero, List.set_cons_succ, i64_w, i32_w]
                    rfl
                  refine pure_ (i := 13) (N := some 37) (v := ?_) (a' := ?_) #[true, true, true, true, true, true, true, true, true, true, true, true, true, true, false, false, false, false, false, false, false, false, false, false, false, false, false, false, false, false, false, false, false, false, false, false, false, false] rfl rfl (any_of HT_.out (by kernel_rfl)) (fun _ _ _ h => h) (Or.inl ⟨by rfl, ?_⟩) ?_ ?_
                  rotate_left
                  · intro w'
                    go_simp
                    with_reducible rfl
                  rotate_left
                  · simp only [Act.put, List.setIfInBounds_toArray, List.set_cons_zero, List.set_cons_succ, i64_w, i32_w]
                    rfl
                  refine pure_ (i := 14) (N := some 38) (v := ?_) (a' := ?_) #[true, true, true, true, true, true, true, true, true, true, true, true, true, true, true, false, false, false, false, false, false, false, false, false, false, false, false, false, false, false, false, false, false, false, false, false, false, false] rfl rfl (any_of HT_.out (by kernel_rfl)) (fun _ _ _ h => h) (Or.inl ⟨by rfl, ?_⟩) ?_ ?_
                  rotate_left
                  · intro w'
                    go_simp
                    with_reducible rfl
                  rotate_left
                  · simp only [Act.put, List.setIfInBounds_toArray, List.set_cons_zero, List.set_cons_succ, i64_w, i32_w]
                    rfl
                  refine pure_ (i := 15) (N := some 39) (v := ?_) (a' := ?_) #[true, true, true, true, true, true, true, true, true, true, true, true, true, true, true, true, false, false, false, false, false, false, false, false, false, false, false, false, false, false, false, false, false, false, false, false, false, false] rfl rfl (any_of HT_.out (by kernel_rfl)) (fun _ _ _ h => h) (Or.inl ⟨by rfl, ?_⟩) ?_ ?_
                  rotate_left
                  · intro w'
                    go_simp
                    with_reducible rfl
                  rotate_left
                  · simp only [Act.put, List.setIfInBounds_toArray, List.set_cons_zero, List.set_cons_succ, i64_w, i32_w]
                    rfl
                  refine pure_ (i := 16) (N := some 40) (v := ?_) (a' := ?_) #[true, true, true, true, true, true, true, true, true, true, true, true, true, true, true, true, true, false, false, false, false, false, false, false, false, false, false, false, false, false, false, false, false, false, false, false, false, false] rfl rfl (any_of HT_.out (by kernel_rfl)) (fun _ _ _ h => h) (Or.inl ⟨by rfl, ?_⟩) ?_ ?_
                  rotate_left
                  · intro w'
                    go_simp
                    with_reducible rfl
                  rotate_left
                  · simp only [Act.put, List.setIfInBounds_toArray, List.set_cons_zero, List.set_cons_succ, i64_w, i32_w]
                    rfl
                  refine take_ (i := 17) (N := some 41) (v := ?_) (a' := ?_) #[true, true, true, true, true, true, true, true, true, true, true, true, true, true, true, true, true, true, false, false, false, false, false, false, false, false, false, false, false, false, false, false, false, false, false, false, false, false] rfl rfl (take_ofW HT_.out HW_.out (by kernel_rfl)) (fun _ _ _ h => h) (Or.inl ⟨by rfl, ?_⟩) hHeld ?_ ?_
                  rotate_left
                  · rintro w' ⟨s0, s1, s2, s3, s4, s5, s6, s7, s8, s9, s10, s11, s12, s13, s14, s15, s16, s17, s18, s19, s20, s21, s22, s23, s24, s25, s26, s27⟩
                    go_simp
                    with_reducible rfl
                  rotate_left
                  · simp only [Act.put, List.setIfInBounds_toArray, List.set_cons_zero, List.set_cons_succ, i64_w, i32_w]
                    rfl
                  refine take_ (i := 18) (N := some 42) (v := ?_) (a' := ?_) #[true, true, true, true, true, true, true, true, true, true, true, true, true, true, true, true, true, true, true, false, false, false, false, false, false, false, false, false, false, false, false, false, false, false, false, false, false, false] rfl rfl (take_ofW HT_.out HW_.out (by kernel_rfl)) (fun _ _ _ h => h) (Or.inl ⟨by rfl, ?_⟩) hHeld ?_ ?_
                  rotate_left
                  · rintro w' ⟨s0, s1, s2, s3, s4, s5, s6, s7, s8, s9, s10, s11, s12, s13, s14, s15, s16, s17, s18, s19, s20, s21, s22, s23, s24, s25, s26, s27⟩
                    go_simp
                    with_reducible rfl
                  rotate_left
                  · simp only [Act.put, List.setIfInBounds_toArray, List.set_cons_zero, List.set_cons_succ, i64_w, i32_w]
                    rfl
                  refine pure_ (i := 19) (N := some 43) (v := ?_) (a' := ?_) #[true, true, true, true, true, true, true, true, true, true, true, true, true, true, true, true, true, true, true, true, false, false, false, false, false, false, false, false, false, false, false, false, false, false, false, false, false, false] rfl rfl (any_of HT_.out (by kernel_rfl)) (fun _ _ _ h => h) (Or.inl ⟨by rfl, ?_⟩) ?_ ?_
                  rotate_left
                  · intro w'
                    go_simp
                    with_reducible rfl
                  rotate_left
                  · simp only [Act.put, List.setIfInBounds_toArray, List.set_cons_zero, List.set_cons_succ, i64_w, i32_w]
                    rfl
                  refine pure_ (i := 20) (N := some 44) (v := ?_) (a' := ?_) #[true, true, true, true, true, true, true, true, true, true, true, true, true, true, true, true, true, true, true, true, true, false, false, false, false, false, false, false, false, false, false, false, false, false, false, false, false, false] rfl rfl (any_of HT_.out (by kernel_rfl)) (fun _ _ _ h => h) (Or.inl ⟨by rfl, ?_⟩) ?_ ?_
                  rotate_left
                  · intro w'
                    go_simp
                    with_reducible rfl
                  rotate_left
                  · simp only [Act.put, List.setIfInBounds_toArray, List.set_cons_zero, List.set_cons_succ, i64_w, i32_w]
                    rfl
                  refine pure_ (i := 21) (N := some 45) (v := ?_) (a' := ?_) #[true, true, true, true, true, true, true, true, true, true, true, true, true, true, true, true, true, true, true, true, true, true, false, false, false, false, false, false, false, false, false, false, false, false, false, false, false, false] rfl rfl (any_of HT_.out (by kernel_rfl)) (fun _ _ _ h => h) (Or.inl ⟨by rfl, ?_⟩) ?_ ?_
                  rotate_left
                  · intro w'
                    go_simp
                    with_reducible rfl
                  rotate_left
                  · simp only [Act.put, List.setIfInBounds_toArray, List.set_cons_zero, List.set_cons_succ, i64_w, i32_w]
                    rfl
                  refine pure_ (i := 22) (N := some 46) (v := ?_) (a' := ?_) #[true, true, true, true, true, true, true, true, true, true, true, true, true, true, true, true, true, true, true, true, true, true, true, false, false, false, false, false, false, false, false, false, false, false, false, false, false, false] rfl rfl (any_of HT_.out (by kernel_rfl)) (fun _ _ _ h => h) (Or.inl ⟨by rfl, ?_⟩) ?_ ?_
                  rotate_left
                  · intro w'
                    go_simp
                    with_reducible rfl
                  rotate_left
                  · simp only [Act.put, List.setIfInBounds_toArray, List.set_cons_zero, List.set_cons_succ, i64_w, i32_w]
                    rfl
                  refine pure_ (i := 23) (N := some 47) (v := ?_) (a' := ?_) #[true, true, true, true, true, true, true, true, true, true, true, true, true, true, true, true, true, true, true, true, true, true, true, true, false, false, false, false, false, false, false, false, false, false, false, false, false, false] rfl rfl (any_of HT_.out (by kernel_rfl)) (fun _ _ _ h => h) (Or.inl ⟨by rfl, ?_⟩) ?_ ?_
                  rotate_left
                  · intro w'
                    go_simp
                    with_reducible rfl
                  rotate_left
                  · simp only [Act.put, List.setIfInBounds_toArray, List.set_cons_zero, List.set_cons_succ, i64_w, i32_w]
                    rfl
                  refine pure_ (i := 24) (N := some 48) (v := ?_) (a' := ?_) #[true, true, true, true, true, true, true, true, true, true, true, true, true, true, true, true, true, true, true, true, true, true, true, true, true, false, false, false, false, false, false, false, false, false, false, false, false, false] rfl rfl (any_of HT_.out (by kernel_rfl)) (fun _ _ _ h => h) (Or.inl ⟨by rfl, ?_⟩) ?_ ?_
                  rotate_left
                  · intro w'
                    go_simp
                    with_reducible rfl
                  rotate_left
                  · simp only [Act.put, List.setIfInBounds_toArray, List.set_cons_zero, List.set_cons_succ, i64_w, i32_w]
                    rfl
                  refine pure_ (i := 25) (N := some 49) (v := ?_) (a' := ?_) #[true, true, true, true, true, true, true, true, true, true, true, true, true, true, true, true, true, true, true, true, true, true, true, true, true, true, false, false, false, false, false, false, false, false, false, false, false, false] rfl rfl (any_of HT_.out (by kernel_rfl)) (fun _ _ _ h => h) (Or.inl ⟨by rfl, ?_⟩) ?_ ?_
                  rotate_left
                  · intro w'
                    go_simp
                    with_reducible rfl
                  rotate_left
                  · simp only [Act.put, List.setIfInBounds_toArray, List.set_cons_zero, List.set_cons_succ, i64_w, i32_w]
                    rfl
                  refine pure_ (i := 26) (N := some 50) (v := ?_) (a' := ?_) #[true, true, true, true, true, true, true, true, true, true, true, true, true, true, true, true, true, true, true, true, true, true, true, true, true, true, true, false, false, false, false, false, false, false, false, false, false, false] rfl rfl (any_of HT_.out (by kernel_rfl)) (fun _ _ _ h => h) (Or.inl ⟨by rfl, ?_⟩) ?_ ?_
                  rotate_left
                  · intro w'
                    go_simp
                    with_reducible rfl
                  rotate_left
                  · simp only [Act.put, List.setIfInBounds_toArray, List.set_cons_zero, List.set_cons_succ, i64_w, i32_w]
                    rfl
                  refine one_ (i := 27) (N := some 51) #[true, true, true, true, true, true, true, true, true, true, true, true, true, true, true, true, true, true, true, true, true, true, true, true, true, true, true, true, false, false, false, false, false, false, false, false, false, false] rfl rfl (one_of HT_.out (by kernel_rfl)) (by decide) (fun K hK => ?_)
                  refine goes_ Try.func10 (by kernel_rfl) rfl #[.slice (some ad217) t206.length co29] (by rfl) rfl rfl (by (try simp only [List.map_toArray, List.map_cons, List.map_nil]); first | done | rfl | (simp only [List.length_drop, List.length_take]; rfl)) ?_
                  with_reducible refine (preds_Right.calls k _ _ t206 true _ ?side1 ?side2 A10.out).mono ?_
                  (case side1 => repeat (first | exact (Kd.R_reads' HO209.out).2.2 | (with_reducible refine Kd.C_alloc ?_ _) | (with_reducible refine Kd.C_drewN ?_ _) | (with_reducible refine Kd.C_drew ?_)))
                  (case side2 => exact (Kd.R_reads' HO209.out).2.1)
                  rintro e w30 ⟨rfl, hb⟩
                  have HS14_ := (hb.cell (World.block_lt_of_cell? _ _ (hHeld.2.2.2.2.2.2.2.2.2.2.2.2.2.2.1))).trans (hHeld.2.2.2.2.2.2.2.2.2.2.2.2.2.2.1)
                  have HS15_ := (hb.cell (World.block_lt_of_cell? _ _ (hHeld.2.2.2.2.2.2.2.2.2.2.2.2.2.2.2.1))).trans (hHeld.2.2.2.2.2.2.2.2.2.2.2.2.2.2.2.1)
                  have HS16_ := (hb.cell (World.block_lt_of_cell? _ _ (hHeld.2.2.2.2.2.2.2.2.2.2.2.2.2.2.2.2.1))).trans (hHeld.2.2.2.2.2.2.2.2.2.2.2.2.2.2.2.2.1)
                  have HS17_ := (hb.cell (World.block_lt_of_cell? _ _ (hHeld.2.2.2.2.2.2.2.2.2.2.2.2.2.2.2.2.2.1))).trans (hHeld.2.2.2.2.2.2.2.2.2.2.2.2.2.2.2.2.2.1)
                  have HS18_ := (hb.cell (World.block_lt_of_cell? _ _ (hHeld.2.2.2.2.2.2.2.2.2.2.2.2.2.2.2.2.2.2.1))).trans (hHeld.2.2.2.2.2.2.2.2.2.2.2.2.2.2.2.2.2.2.1)
                  have HS19_ := (hb.cell (World.block_lt_of_cell? _ _ (hHeld.2.2.2.2.2.2.2.2.2.2.2.2.2.2.2.2.2.2.2.1))).trans (hHeld.2.2.2.2.2.2.2.2.2.2.2.2.2.2.2.2.2.2.2.1)
                  have HS20_ := (hb.cell (World.block_lt_of_cell? _ _ (hHeld.2.2.2.2.2.2.2.2.2.2.2.2.2.2.2.2.2.2.2.2.1))).trans (hHeld.2.2.2.2.2.2.2.2.2.2.2.2.2.2.2.2.2.2.2.2.1)
                  have HS21_ := (hb.cell (World.block_lt_of_cell? _ _ (hHeld.2.2.2.2.2.2.2.2.2.2.2.2.2.2.2.2.2.2.2.2.2.1))).trans (hHeld.2.2.2.2.2.2.2.2.2.2.2.2.2.2.2.2.2.2.2.2.2.1)
                  have HS22_ := (hb.cell (World.block_lt_of_cell? _ _ (hHeld.2.2.2.2.2.2.2.2.2.2.2.2.2.2.2.2.2.2.2.2.2.2.1))).trans (hHeld.2.2.2.2.2.2.2.2.2.2.2.2.2.2.2.2.2.2.2.2.2.2.1)
                  have HS23_ := (hb.cell (World.block_lt_of_cell? _ _ (hHeld.2.2.2.2.2.2.2.2.2.2.2.2.2.2.2.2.2.2.2.2.2.2.2.1))).trans (hHeld.2.2.2.2.2.2.2.2.2.2.2.2.2.2.2.2.2.2.2.2.2.2.2.1)
                  have HS24_ := (hb.cell (World.block_lt_of_cell? _ _ (hHeld.2.2.2.2.2.2.2.2.2.2.2.2.2.2.2.2.2.2.2.2.2.2.2.2.1))).trans (hHeld.2.2.2.2.2.2.2.2.2.2.2.2.2.2.2.2.2.2.2.2.2.2.2.2.1)
                  have HS25_ := (hb.cell (World.block_lt_of_cell? _ _ (hHeld.2.2.2.2.2.2.2.2.2.2.2.2.2.2.2.2.2.2.2.2.2.2.2.2.2.1))).trans (hHeld.2.2.2.2.2.2.2.2.2.2.2.2.2.2.2.2.2.2.2.2.2.2.2.2.2.1)
                  have HS26_ := (hb.cell (World.block_lt_of_cell? _ _ (hHeld.2.2.2.2.2.2.2.2.2.2.2.2.2.2.2.2.2.2.2.2.2.2.2.2.2.2.1))).trans (hHeld.2.2.2.2.2.2.2.2.2.2.2.2.2.2.2.2.2.2.2.2.2.2.2.2.2.2.1)
                  have HS27_ := (hb.cell (World.block_lt_of_cell? _ _ (hHeld.2.2.2.2.2.2.2.2.2.2.2.2.2.2.2.2.2.2.2.2.2.2.2.2.2.2.2))).trans (hHeld.2.2.2.2.2.2.2.2.2.2.2.2.2.2.2.2.2.2.2.2.2.2.2.2.2.2.2)
                  refine ⟨_, rfl, ?_⟩
                  have n0_ := Aside0.mk (Kd.R_below (by (with_reducible repeat (first | apply Kd.R_alloc | apply Kd.R_drewN | apply Kd.R_drew)); exact HO205.out) hb)
                  have n1_ := Aside0.mk (Kd.R_below (by (with_reducible repeat (first | apply Kd.R_alloc | apply Kd.R_drewN | apply Kd.R_drew)); exact HO209.out) hb)
                  have n2_ := Aside0.mk (Kd.R_below (by (with_reducible repeat (first | apply Kd.R_alloc | apply Kd.R_drewN | apply Kd.R_drew)); exact HO212.out) hb)
                  have n3_ := Aside0.mk (Kd.R_below (by (with_reducible repeat (first | apply Kd.R_alloc | apply Kd.R_drewN | apply Kd.R_drew)); exact HO216.out) hb)
                  have n4_ := Aside0.mk (blk_below (g := gb201) (o := .cells #[.int .i64 17, .int .i64 1, .int .i64 0, .int .i64 16, .int .i64 0, .int .i64 0, .int .i64 0] 32 (0, 0)) (by (with_reducible repeat (first | refine blk_drewN ?_ _ | refine blk_drew ?_ | refine blk_alloc ?_ _)); exact BK201.out) hb)
                  have n5_ := Aside0.mk (blk_below (g := gb202) (o := .cells #[.int .i64 16, .int .i64 1, .int .i64 0, .int .i64 17, .int .i64 0, .int .i64 0, .int .i64 0] 32 (0, 0)) (by (with_reducible repeat (first | refine blk_drewN ?_ _ | refine blk_drew ?_ | refine blk_alloc ?_ _)); exact BK202.out) hb)
                  have n6_ := Aside0.mk (below_step (by repeat (first | (with_reducible first | exact HB.out | apply below_alloc | apply pw_below_drewN | apply below_drew1 | refine below_set ?_ GE201.out | refine below_set ?_ GE202.out) | exact HB.out)) hb)
                  clear HO205
                  clear HO209
                  clear HO212
                  clear HO216
                  clear BK201
                  clear BK202
                  clear HB
                  have HO205 := n0_
                  have HO209 := n1_
                  have HO212 := n2_
                  have HO216 := n3_
                  have BK201 := n4_
                  have BK202 := n5_
                  have HB := n6_
                  clear n0_ n1_ n2_ n3_ n4_ n5_ n6_
                  (try clear hb)
                  (try clear hb2)
                  (try clear hk)
                  (try clear hi)
                  refine hK.out _ _ ⟨(blk_cell BK202.out 0).trans rfl, (blk_cell BK202.out 1).trans rfl, (blk_cell BK202.out 2).trans rfl, (blk_cell BK202.out 3).trans rfl, (blk_cell BK202.out 4).trans rfl, (blk_cell BK202.out 5).trans rfl, (blk_cell BK202.out 6).trans rfl, (blk_cell BK201.out 0).trans rfl, (blk_cell BK201.out 1).trans rfl, (blk_cell BK201.out 2).trans rfl, (blk_cell BK201.out 3).trans rfl, (blk_cell BK201.out 4).trans rfl, (blk_cell BK201.out 5).trans rfl, (blk_cell BK201.out 6).trans rfl, HS14_, HS15_, HS16_, HS17_, HS18_, HS19_, HS20_, HS21_, HS22_, HS23_, HS24_, HS25_, HS26_, HS27_⟩ (fun hHeld => ?_)
                  clear hK K
                  refine norm_ (a' := ?_) ?_ ?_
                  rotate_left
                  · show Act.put _ (some 51) _ = _
                    simp only [Act.put, List.setIfInBounds_toArray, List.set_cons_zero, List.set_cons_succ, i64_w, i32_w]
                    rfl
                  refine pure_ (i := 28) (N := some 52) (v := ?_) (a' := ?_) #[true, true, true, true, true, true, true, true, true, true, true, true, true, true, true, true, true, true, true, true, true, true, true, true, true, true, true, true, true, false, false, false, false, false, false, false, false, false] rfl rfl (any_of HT_.out (by kernel_rfl)) (fun _ _ _ h => h) (Or.inl ⟨by rfl, ?_⟩) ?_ ?_
                  rotate_left
                  · intro w'
                    go_simp
                    with_reducible rfl
                  rotate_left
                  · simp only [Act.put, List.setIfInBounds_toArray, List.set_cons_zero, List.set_cons_succ, i64_w, i32_w]
                    rfl
                  refine pure_ (i := 29) (N := some 53) (v := ?_) (a' := ?_) #[true, true, true, true, true, true, true, true, true, true, true, true, true, true, true, true, true, true, true, true, true, true, true, true, true, true, true, true, true, true, false, false, false, false, false, false, false, false] rfl rfl (any_of HT_.out (by kernel_rfl)) (fun _ _ _ h => h) (Or.inl ⟨by rfl, ?_⟩) ?_ ?_
                  rotate_left
                  · intro w'
                    go_simp
                    with_reducible rfl
                  rotate_left
                  · simp only [Act.put, List.setIfInBounds_toArray, List.set_cons_zero, List.set_cons_succ, i64_w, i32_w]
                    rfl
                  refine pure_ (i := 30) (N := some 54) (v := ?_) (a' := ?_) #[true, true, true, true, true, true, true, true, true, true, true, true, true, true, true, true, true, true, true, true, true, true, true, true, true, true, true, true, true, true, true, false, false, false, false, false, false, false] rfl rfl (any_of HT_.out (by kernel_rfl)) (fun _ _ _ h => h) (Or.inl ⟨by rfl, ?_⟩) ?_ ?_
                  rotate_left
                  · intro w'
                    go_simp
                    with_reducible rfl
                  rotate_left
                  · simp only [Act.put, List.setIfInBounds_toArray, List.set_cons_zero, List.set_cons_succ, i64_w, i32_w]
                    rfl
                  refine take_ (i := 31) (N := some 55) (v := ?_) (a' := ?_) #[true, true, true, true, true, true, true, true, true, true, true, true, true, true, true, true, true, true, true, true, true, true, true, true, true, true, true, true, true, true, true, true, false, false, false, false, false, false] rfl rfl (take_ofW HT_.out HW_.out (by kernel_rfl)) (fun _ _ _ h => h) (Or.inl ⟨by rfl, ?_⟩) hHeld ?_ ?_
                  rotate_left
                  · rintro w' ⟨s0, s1, s2, s3, s4, s5, s6, s7, s8, s9, s10, s11, s12, s13, s14, s15, s16, s17, s18, s19, s20, s21, s22, s23, s24, s25, s26, s27⟩
                    go_simp
                    with_reducible rfl
                  rotate_left
                  · simp only [Act.put, List.setIfInBounds_toArray, List.set_cons_zero, List.set_cons_succ, i64_w, i32_w]
                    rfl
                  refine one_ (i := 32) (N := some 56) #[true, true, true, true, true, true, true, true, true, true, true, true, true, true, true, true, true, true, true, true, true, true, true, true, true, true, true, true, true, true, true, true, true, false, false, false, false, false] rfl rfl (one_of HT_.out (by kernel_rfl)) (by decide) (fun K hK => ?_)
                  refine Kd.R_lit_step k32 _ 32 ?hg (N := 56) ?hd (xs := ([(⟨17, 1, 0, 16, 0, 0, 0⟩ : S32)] : List (S32))) (inner := [.int .i64 17, .int .i64 1, .int .i64 0, .int .i64 16, .int .i64 0, .int .i64 0, .int .i64 0]) (ok := fun _ => True) (okp := fun _ => True) ?hr ?hp (fun _ hk => hk) trivial (Below.refl _ _) (Nat.le_refl _) (by simp) ?_; (case hd => rfl); (case hg => rfl); (case hr => first | (go_simp; done) | (go_simp; rfl)); (case hp => exact (Reps.c7 (show Kd.M k32 _ _ _ (⟨17, 1, 0, 16, 0, 0, 0⟩ : S32) [.int .i64 17, .int .i64 1, .int .i64 0, .int .i64 16, .int .i64 0, .int .i64 0, .int .i64 0] from (k32_mkM _ _ _ (⟨17, 1, 0, 16, 0, 0, 0⟩ : S32) )) (Reps.none _ _)))
                  intro v221 w31 ho32 hb hg_ hnew_
                  have HS14_ := (hb.cell (World.block_lt_of_cell? _ _ (hHeld.2.2.2.2.2.2.2.2.2.2.2.2.2.2.1))).trans (hHeld.2.2.2.2.2.2.2.2.2.2.2.2.2.2.1)
                  have HS15_ := (hb.cell (World.block_lt_of_cell? _ _ (hHeld.2.2.2.2.2.2.2.2.2.2.2.2.2.2.2.1))).trans (hHeld.2.2.2.2.2.2.2.2.2.2.2.2.2.2.2.1)
                  have HS16_ := (hb.cell (World.block_lt_of_cell? _ _ (hHeld.2.2.2.2.2.2.2.2.2.2.2.2.2.2.2.2.1))).trans (hHeld.2.2.2.2.2.2.2.2.2.2.2.2.2.2.2.2.1)
                  have HS17_ := (hb.cell (World.block_lt_of_cell? _ _ (hHeld.2.2.2.2.2.2.2.2.2.2.2.2.2.2.2.2.2.1))).trans (hHeld.2.2.2.2.2.2.2.2.2.2.2.2.2.2.2.2.2.1)
                  have HS18_ := (hb.cell (World.block_lt_of_cell? _ _ (hHeld.2.2.2.2.2.2.2.2.2.2.2.2.2.2.2.2.2.2.1))).trans (hHeld.2.2.2.2.2.2.2.2.2.2.2.2.2.2.2.2.2.2.1)
                  have HS19_ := (hb.cell (World.block_lt_of_cell? _ _ (hHeld.2.2.2.2.2.2.2.2.2.2.2.2.2.2.2.2.2.2.2.1))).trans (hHeld.2.2.2.2.2.2.2.2.2.2.2.2.2.2.2.2.2.2.2.1)
                  have HS20_ := (hb.cell (World.block_lt_of_cell? _ _ (hHeld.2.2.2.2.2.2.2.2.2.2.2.2.2.2.2.2.2.2.2.2.1))).trans (hHeld.2.2.2.2.2.2.2.2.2.2.2.2.2.2.2.2.2.2.2.2.1)
                  have HS21_ := (hb.cell (World.block_lt_of_cell? _ _ (hHeld.2.2.2.2.2.2.2.2.2.2.2.2.2.2.2.2.2.2.2.2.2.1))).trans (hHeld.2.2.2.2.2.2.2.2.2.2.2.2.2.2.2.2.2.2.2.2.2.1)
                  have HS22_ := (hb.cell (World.block_lt_of_cell? _ _ (hHeld.2.2.2.2.2.2.2.2.2.2.2.2.2.2.2.2.2.2.2.2.2.2.1))).trans (hHeld.2.2.2.2.2.2.2.2.2.2.2.2.2.2.2.2.2.2.2.2.2.2.1)
                  have HS23_ := (hb.cell (World.block_lt_of_cell? _ _ (hHeld.2.2.2.2.2.2.2.2.2.2.2.2.2.2.2.2.2.2.2.2.2.2.2.1))).trans (hHeld.2.2.2.2.2.2.2.2.2.2.2.2.2.2.2.2.2.2.2.2.2.2.2.1)
                  have HS24_ := (hb.cell (World.block_lt_of_cell? _ _ (hHeld.2.2.2.2.2.2.2.2.2.2.2.2.2.2.2.2.2.2.2.2.2.2.2.2.1))).trans (hHeld.2.2.2.2.2.2.2.2.2.2.2.2.2.2.2.2.2.2.2.2.2.2.2.2.1)
                  have HS25_ := (hb.cell (World.block_lt_of_cell? _ _ (hHeld.2.2.2.2.2.2.2.2.2.2.2.2.2.2.2.2.2.2.2.2.2.2.2.2.2.1))).trans (hHeld.2.2.2.2.2.2.2.2.2.2.2.2.2.2.2.2.2.2.2.2.2.2.2.2.2.1)
                  have HS26_ := (hb.cell (World.block_lt_of_cell? _ _ (hHeld.2.2.2.2.2.2.2.2.2.2.2.2.2.2.2.2.2.2.2.2.2.2.2.2.2.2.1))).trans (hHeld.2.2.2.2.2.2.2.2.2.2.2.2.2.2.2.2.2.2.2.2.2.2.2.2.2.2.1)
                  have HS27_ := (hb.cell (World.block_lt_of_cell? _ _ (hHeld.2.2.2.2.2.2.2.2.2.2.2.2.2.2.2.2.2.2.2.2.2.2.2.2.2.2.2))).trans (hHeld.2.2.2.2.2.2.2.2.2.2.2.2.2.2.2.2.2.2.2.2.2.2.2.2.2.2.2)
                  clear hg_ hnew_
                  (first | rw [← Ny220.out] at ho32 | (simp only [Int.reduceToNat] at ho32; rw [← Ny220.out] at ho32))
                  have n0_ := Aside0.mk (Kd.R_elder' (by (with_reducible repeat (first | apply Kd.R_alloc | apply Kd.R_drewN | apply Kd.R_drew)); exact HO205.out) (Kd.R_base ho32) hb)
                  have n1_ := Aside0.mk (Kd.R_elder' (by (with_reducible repeat (first | apply Kd.R_alloc | apply Kd.R_drewN | apply Kd.R_drew)); exact HO209.out) (Kd.R_base ho32) hb)
                  have n2_ := Aside0.mk (Kd.R_elder' (by (with_reducible repeat (first | apply Kd.R_alloc | apply Kd.R_drewN | apply Kd.R_drew)); exact HO212.out) (Kd.R_base ho32) hb)
                  have n3_ := Aside0.mk (Kd.R_elder' (by (with_reducible repeat (first | apply Kd.R_alloc | apply Kd.R_drewN | apply Kd.R_drew)); exact HO216.out) (Kd.R_base ho32) hb)
                  have n4_ := Aside0.mk (Kd.R_lower (Kd.R_newB (Kd.R_newB (Kd.R_new' (Kd.R_new' (Kd.R_new' (Kd.R_new' ho32 (Kd.R_lt (by (with_reducible repeat (first | apply Kd.R_alloc | apply Kd.R_drewN | apply Kd.R_drew)); exact HO205.out))) (Kd.R_lt (by (with_reducible repeat (first | apply Kd.R_alloc | apply Kd.R_drewN | apply Kd.R_drew)); exact HO209.out))) (Kd.R_lt (by (with_reducible repeat (first | apply Kd.R_alloc | apply Kd.R_drewN | apply Kd.R_drew)); exact HO212.out))) (Kd.R_lt (by (with_reducible repeat (first | apply Kd.R_alloc | apply Kd.R_drewN | apply Kd.R_drew)); exact HO216.out))) (g := gb201) (o := .cells #[.int .i64 17, .int .i64 1, .int .i64 0, .int .i64 16, .int .i64 0, .int .i64 0, .int .i64 0] 32 (0, 0)) (by (with_reducible repeat (first | refine blk_drewN ?_ _ | refine blk_drew ?_ | refine blk_alloc ?_ _)); exact BK201.out)) (g := gb202) (o := .cells #[.int .i64 16, .int .i64 1, .int .i64 0, .int .i64 17, .int .i64 0, .int .i64 0, .int .i64 0] 32 (0, 0)) (by (with_reducible repeat (first | refine blk_drewN ?_ _ | refine blk_drew ?_ | refine blk_alloc ?_ _)); exact BK202.out)) (below_size (by repeat (first | (with_reducible first | exact HB.out | apply below_alloc | apply pw_below_drewN | apply below_drew1 | refine below_set ?_ GE201.out | refine below_set ?_ GE202.out) | exact HB.out))))
                  have n5_ := Aside0.mk (blk_below (g := gb201) (o := .cells #[.int .i64 17, .int .i64 1, .int .i64 0, .int .i64 16, .int .i64 0, .int .i64 0, .int .i64 0] 32 (0, 0)) (by (with_reducible repeat (first | refine blk_drewN ?_ _ | refine blk_drew ?_ | refine blk_alloc ?_ _)); exact BK201.out) hb)
                  have n6_ := Aside0.mk (blk_below (g := gb202) (o := .cells #[.int .i64 16, .int .i64 1, .int .i64 0, .int .i64 17, .int .i64 0, .int .i64 0, .int .i64 0] 32 (0, 0)) (by (with_reducible repeat (first | refine blk_drewN ?_ _ | refine blk_drew ?_ | refine blk_alloc ?_ _)); exact BK202.out) hb)
                  have n7_ := Aside0.mk (below_step (by repeat (first | (with_reducible first | exact HB.out | apply below_alloc | apply pw_below_drewN | apply below_drew1 | refine below_set ?_ GE201.out | refine below_set ?_ GE202.out) | exact HB.out)) hb)
                  clear HO205
                  clear HO209
                  clear HO212
                  clear HO216
                  clear BK201
                  clear BK202
                  clear HB
                  have HO205 := n0_
                  have HO209 := n1_
                  have HO212 := n2_
                  have HO216 := n3_
                  have HO222 := n4_
                  have BK201 := n5_
                  have BK202 := n6_
                  have HB := n7_
                  clear n0_ n1_ n2_ n3_ n4_ n5_ n6_ n7_
                  clear hb ho32
                  obtain ⟨Ao33, co33, eo33⟩ := Kd.R_slice HO222.out
                  (first | subst eo33 | (injection eo33 with f1_ f2_ f3_; have f4_ := f1_.symm; have f5_ := f3_.symm; clear f1_ f2_ f3_; subst f4_; subst f5_))
                  refine hK.out _ _ ⟨(blk_cell BK202.out 0).trans rfl, (blk_cell BK202.out 1).trans rfl, (blk_cell BK202.out 2).trans rfl, (blk_cell BK202.out 3).trans rfl, (blk_cell BK202.out 4).trans rfl, (blk_cell BK202.out 5).trans rfl, (blk_cell BK202.out 6).trans rfl, (blk_cell BK201.out 0).trans rfl, (blk_cell BK201.out 1).trans rfl, (blk_cell BK201.out 2).trans rfl, (blk_cell BK201.out 3).trans rfl, (blk_cell BK201.out 4).trans rfl, (blk_cell BK201.out 5).trans rfl, (blk_cell BK201.out 6).trans rfl, HS14_, HS15_, HS16_, HS17_, HS18_, HS19_, HS20_, HS21_, HS22_, HS23_, HS24_, HS25_, HS26_, HS27_⟩ (fun hHeld => ?_)
                  clear hK K
                  refine norm_ (a' := ?_) ?_ ?_
                  rotate_left
                  · show Act.put _ (some 56) _ = _
                    simp only [Act.put, List.setIfInBounds_toArray, List.set_cons_zero, List.set_cons_succ, i64_w, i32_w]
                    rfl
                  refine one_ (i := 33) (N := some 57) #[true, true, true, true, true, true, true, true, true, true, true, true, true, true, true, true, true, true, true, true, true, true, true, true, true, true, true, true, true, true, true, true, true, true, false, false, false, false] rfl rfl (one_of HT_.out (by kernel_rfl)) (by decide) (fun K hK => ?_)
                  refine goes_ Try.func9 (by kernel_rfl) rfl #[.slice (some ad217) t206.length co29, .slice Ao33 y220.length co33] (by rfl) rfl rfl (by (try simp only [List.map_toArray, List.map_cons, List.map_nil]); first | done | rfl | (simp only [List.length_drop, List.length_take]; rfl)) ?_
                  with_reducible refine (preds_Minus.calls k _ _ t206 _ _ y220 t223 _ ?side1 ?side2 ?side3 ?side4 A12.out).mono ?_
                  (case side1 => repeat (first | exact (Kd.R_reads' HO209.out).2.2 | (with_reducible refine Kd.C_alloc ?_ _) | (with_reducible refine Kd.C_drewN ?_ _) | (with_reducible refine Kd.C_drew ?_)))
                  (case side2 => exact (Kd.R_reads' HO209.out).2.1)
                  (case side3 => repeat (first | exact (Kd.R_reads' HO222.out).2.2 | (with_reducible refine Kd.C_alloc ?_ _) | (with_reducible refine Kd.C_drewN ?_ _) | (with_reducible refine Kd.C_drew ?_)))
                  (case side4 => exact (Kd.R_reads' HO222.out).2.1)
                  rintro e w34 ⟨v224, rfl, ho0, hb⟩
                  have HS14_ := (hb.cell (World.block_lt_of_cell? _ _ (hHeld.2.2.2.2.2.2.2.2.2.2.2.2.2.2.1))).trans (hHeld.2.2.2.2.2.2.2.2.2.2.2.2.2.2.1)
                  have HS15_ := (hb.cell (World.block_lt_of_cell? _ _ (hHeld.2.2.2.2.2.2.2.2.2.2.2.2.2.2.2.1))).trans (hHeld.2.2.2.2.2.2.2.2.2.2.2.2.2.2.2.1)
                  have HS16_ := (hb.cell (World.block_lt_of_cell? _ _ (hHeld.2.2.2.2.2.2.2.2.2.2.2.2.2.2.2.2.1))).trans (hHeld.2.2.2.2.2.2.2.2.2.2.2.2.2.2.2.2.1)
                  have HS17_ := (hb.cell (World.block_lt_of_cell? _ _ (hHeld.2.2.2.2.2.2.2.2.2.2.2.2.2.2.2.2.2.1))).trans (hHeld.2.2.2.2.2.2.2.2.2.2.2.2.2.2.2.2.2.1)
                  have HS18_ := (hb.cell (World.block_lt_of_cell? _ _ (hHeld.2.2.2.2.2.2.2.2.2.2.2.2.2.2.2.2.2.2.1))).trans (hHeld.2.2.2.2.2.2.2.2.2.2.2.2.2.2.2.2.2.2.1)
                  have HS19_ := (hb.cell (World.block_lt_of_cell? _ _ (hHeld.2.2.2.2.2.2.2.2.2.2.2.2.2.2.2.2.2.2.2.1))).trans (hHeld.2.2.2.2.2.2.2.2.2.2.2.2.2.2.2.2.2.2.2.1)
                  have HS20_ := (hb.cell (World.block_lt_of_cell? _ _ (hHeld.2.2.2.2.2.2.2.2.2.2.2.2.2.2.2.2.2.2.2.2.1))).trans (hHeld.2.2.2.2.2.2.2.2.2.2.2.2.2.2.2.2.2.2.2.2.1)
                  have HS21_ := (hb.cell (World.block_lt_of_cell? _ _ (hHeld.2.2.2.2.2.2.2.2.2.2.2.2.2.2.2.2.2.2.2.2.2.1))).trans (hHeld.2.2.2.2.2.2.2.2.2.2.2.2.2.2.2.2.2.2.2.2.2.1)
                  have HS22_ := (hb.cell (World.block_lt_of_cell? _ _ (hHeld.2.2.2.2.2.2.2.2.2.2.2.2.2.2.2.2.2.2.2.2.2.2.1))).trans (hHeld.2.2.2.2.2.2.2.2.2.2.2.2.2.2.2.2.2.2.2.2.2.2.1)
                  have HS23_ := (hb.cell (World.block_lt_of_cell? _ _ (hHeld.2.2.2.2.2.2.2.2.2.2.2.2.2.2.2.2.2.2.2.2.2.2.2.1))).trans (hHeld.2.2.2.2.2.2.2.2.2.2.2.2.2.2.2.2.2.2.2.2.2.2.2.1)
                  have HS24_ := (hb.cell (World.block_lt_of_cell? _ _ (hHeld.2.2.2.2.2.2.2.2.2.2.2.2.2.2.2.2.2.2.2.2.2.2.2.2.1))).trans (hHeld.2.2.2.2.2.2.2.2.2.2.2.2.2.2.2.2.2.2.2.2.2.2.2.2.1)
                  have HS25_ := (hb.cell (World.block_lt_of_cell? _ _ (hHeld.2.2.2.2.2.2.2.2.2.2.2.2.2.2.2.2.2.2.2.2.2.2.2.2.2.1))).trans (hHeld.2.2.2.2.2.2.2.2.2.2.2.2.2.2.2.2.2.2.2.2.2.2.2.2.2.1)
                  have HS26_ := (hb.cell (World.block_lt_of_cell? _ _ (hHeld.2.2.2.2.2.2.2.2.2.2.2.2.2.2.2.2.2.2.2.2.2.2.2.2.2.2.1))).trans (hHeld.2.2.2.2.2.2.2.2.2.2.2.2.2.2.2.2.2.2.2.2.2.2.2.2.2.2.1)
                  have HS27_ := (hb.cell (World.block_lt_of_cell? _ _ (hHeld.2.2.2.2.2.2.2.2.2.2.2.2.2.2.2.2.2.2.2.2.2.2.2.2.2.2.2))).trans (hHeld.2.2.2.2.2.2.2.2.2.2.2.2.2.2.2.2.2.2.2.2.2.2.2.2.2.2.2)
                  refine ⟨_, rfl, ?_⟩
                  have n0_ := Aside0.mk (Kd.R_elder' (by (with_reducible repeat (first | apply Kd.R_alloc | apply Kd.R_drewN | apply Kd.R_drew)); exact HO205.out) (Kd.R_base ho0) hb)
                  have n1_ := Aside0.mk (Kd.R_elder' (by (with_reducible repeat (first | apply Kd.R_alloc | apply Kd.R_drewN | apply Kd.R_drew)); exact HO209.out) (Kd.R_base ho0) hb)
                  have n2_ := Aside0.mk (Kd.R_elder' (by (with_reducible repeat (first | apply Kd.R_alloc | apply Kd.R_drewN | apply Kd.R_drew)); exact HO212.out) (Kd.R_base ho0) hb)
                  have n3_ := Aside0.mk (Kd.R_elder' (by (with_reducible repeat (first | apply Kd.R_alloc | apply Kd.R_drewN | apply Kd.R_drew)); exact HO216.out) (Kd.R_base ho0) hb)
                  have n4_ := Aside0.mk (Kd.R_elder' (by (with_reducible repeat (first | apply Kd.R_alloc | apply Kd.R_drewN | apply Kd.R_drew)); exact HO222.out) (Kd.R_base ho0) hb)
                  have n5_ := Aside0.mk (Kd.R_lower (Kd.R_newB (Kd.R_newB (Kd.R_new' (Kd.R_new' (Kd.R_new' (Kd.R_new' (Kd.R_new' ho0 (Kd.R_lt (by (with_reducible repeat (first | apply Kd.R_alloc | apply Kd.R_drewN | apply Kd.R_drew)); exact HO205.out))) (Kd.R_lt (by (with_reducible repeat (first | apply Kd.R_alloc | apply Kd.R_drewN | apply Kd.R_drew)); exact HO209.out))) (Kd.R_lt (by (with_reducible repeat (first | apply Kd.R_alloc | apply Kd.R_drewN | apply Kd.R_drew)); exact HO212.out))) (Kd.R_lt (by (with_reducible repeat (first | apply Kd.R_alloc | apply Kd.R_drewN | apply Kd.R_drew)); exact HO216.out))) (Kd.R_lt (by (with_reducible repeat (first | apply Kd.R_alloc | apply Kd.R_drewN | apply Kd.R_drew)); exact HO222.out))) (g := gb201) (o := .cells #[.int .i64 17, .int .i64 1, .int .i64 0, .int .i64 16, .int .i64 0, .int .i64 0, .int .i64 0] 32 (0, 0)) (by (with_reducible repeat (first | refine blk_drewN ?_ _ | refine blk_drew ?_ | refine blk_alloc ?_ _)); exact BK201.out)) (g := gb202) (o := .cells #[.int .i64 16, .int .i64 1, .int .i64 0, .int .i64 17, .int .i64 0, .int .i64 0, .int .i64 0] 32 (0, 0)) (by (with_reducible repeat (first | refine blk_drewN ?_ _ | refine blk_drew ?_ | refine blk_alloc ?_ _)); exact BK202.out)) (below_size (by repeat (first | (with_reducible first | exact HB.out | apply below_alloc | apply pw_below_drewN | apply below_drew1 | refine below_set ?_ GE201.out | refine below_set ?_ GE202.out) | exact HB.out))))
                  have n6_ := Aside0.mk (blk_below (g := gb201) (o := .cells #[.int .i64 17, .int .i64 1, .int .i64 0, .int .i64 16, .int .i64 0, .int .i64 0, .int .i64 0] 32 (0, 0)) (by (with_reducible repeat (first | refine blk_drewN ?_ _ | refine blk_drew ?_ | refine blk_alloc ?_ _)); exact BK201.out) hb)
                  have n7_ := Aside0.mk (blk_below (g := gb202) (o := .cells #[.int .i64 16, .int .i64 1, .int .i64 0, .int .i64 17, .int .i64 0, .int .i64 0, .int .i64 0] 32 (0, 0)) (by (with_reducible repeat (first | refine blk_drewN ?_ _ | refine blk_drew ?_ | refine blk_alloc ?_ _)); exact BK202.out) hb)
                  have n8_ := Aside0.mk (below_step (by repeat (first | (with_reducible first | exact HB.out | apply below_alloc | apply pw_below_drewN | apply below_drew1 | refine below_set ?_ GE201.out | refine below_set ?_ GE202.out) | exact HB.out)) hb)
                  clear HO205
                  clear HO209
                  clear HO212
                  clear HO216
                  clear HO222
                  clear BK201
                  clear BK202
                  clear HB
                  have HO205 := n0_
                  have HO209 := n1_
                  have HO212 := n2_
                  have HO216 := n3_
                  have HO222 := n4_
                  have HO225 := n5_
                  have BK201 := n6_
                  have BK202 := n7_
                  have HB := n8_
                  clear n0_ n1_ n2_ n3_ n4_ n5_ n6_ n7_ n8_
                  (try clear hb)
                  (try clear hb2)
                  (try clear hk)
                  (try clear hi)
                  (try clear ho0)
                  obtain ⟨Ao35, co35, eo35⟩ := Kd.R_slice HO225.out
                  (first | subst eo35 | (injection eo35 with f1_ f2_ f3_; have f4_ := f1_.symm; have f5_ := f3_.symm; clear f1_ f2_ f3_; subst f4_; subst f5_))
                  refine hK.out _ _ ⟨(blk_cell BK202.out 0).trans rfl, (blk_cell BK202.out 1).trans rfl, (blk_cell BK202.out 2).trans rfl, (blk_cell BK202.out 3).trans rfl, (blk_cell BK202.out 4).trans rfl, (blk_cell BK202.out 5).trans rfl, (blk_cell BK202.out 6).trans rfl, (blk_cell BK201.out 0).trans rfl, (blk_cell BK201.out 1).trans rfl, (blk_cell BK201.out 2).trans rfl, (blk_cell BK201.out 3).trans rfl, (blk_cell BK201.out 4).trans rfl, (blk_cell BK201.out 5).trans rfl, (blk_cell BK201.out 6).trans rfl, HS14_, HS15_, HS16_, HS17_, HS18_, HS19_, HS20_, HS21_, HS22_, HS23_, HS24_, HS25_, HS26_, HS27_⟩ (fun hHeld => ?_)
                  clear hK K
                  refine norm_ (a' := ?_) ?_ ?_
                  rotate_left
                  · show Act.put _ (some 57) _ = _
                    simp only [Act.put, List.setIfInBounds_toArray, List.set_cons_zero, List.set_cons_succ, i64_w, i32_w]
                    rfl
                  refine pure_ (i := 34) (N := some 58) (v := ?_) (a' := ?_) #[true, true, true, true, true, true, true, true, true, true, true, true, true, true, true, true, true, true, true, true, true, true, true, true, true, true, true, true, true, true, true, true, true, true, true, false, false, false] rfl rfl (any_of HT_.out (by kernel_rfl)) (fun _ _ _ h => h) (Or.inl ⟨by rfl, ?_⟩) ?_ ?_
                  rotate_left
                  · intro w'
                    go_simp
                    with_reducible rfl
                  rotate_left
                  · simp only [Act.put, List.setIfInBounds_toArray, List.set_cons_zero, List.set_cons_succ, i64_w, i32_w]
                    rfl
                  refine pure_ (i := 35) (N := some 59) (v := ?_) (a' := ?_) #[true, true, true, true, true, true, true, true, true, true, true, true, true, true, true, true, true, true, true, true, true, true, true, true, true, true, true, true, true, true, true, true, true, true, true, true, false, false] rfl rfl (any_of HT_.out (by kernel_rfl)) (fun _ _ _ h => h) (Or.inl ⟨by rfl, ?_⟩) ?_ ?_
                  rotate_left
                  · intro w'
                    go_simp
                    with_reducible rfl
                  rotate_left
                  · simp only [Act.put, List.setIfInBounds_toArray, List.set_cons_zero, List.set_cons_succ, i64_w, i32_w]
                    rfl
                  refine pure_ (i := 36) (N := some 60) (v := ?_) (a' := ?_) #[true, true, true, true, true, true, true, true, true, true, true, true, true, true, true, true, true, true, true, true, true, true, true, true, true, true, true, true, true, true, true, true, true, true, true, true, true, false] rfl rfl (any_of HT_.out (by kernel_rfl)) (fun _ _ _ h => h) (Or.inl ⟨by rfl, ?_⟩) ?_ ?_
                  rotate_left
                  · intro w'
                    go_simp
                    with_reducible rfl
                  rotate_left
                  · simp only [Act.put, List.setIfInBounds_toArray, List.set_cons_zero, List.set_cons_succ, i64_w, i32_w]
                    rfl
                  refine pure_ (i := 37) (N := some 0) (v := ?_) (a' := ?_) #[true, true, true, true, true, true, true, true, true, true, true, true, true, true, true, true, true, true, true, true, true, true, true, true, true, true, true, true, true, true, true, true, true, true, true, true, true, true] rfl rfl (any_of HT_.out (by kernel_rfl)) (fun _ _ _ h => h) (Or.inl ⟨by rfl, ?_⟩) ?_ ?_
                  rotate_left
                  · intro w'
                    go_simp
                    with_reducible rfl
                  rotate_left
                  · simp only [Act.put, List.setIfInBounds_toArray, List.set_cons_zero, List.set_cons_succ, i64_w, i32_w]
                    rfl
                  refine done_ (done_of HT_.out (by kernel_rfl)) ?_
                  try go_wp2
                  go_ret
                  exact ⟨by first | rfl | (simp [errW_none, errW_some] <;> rfl) | (simp [*, errW_none, errW_some] <;> rfl), by repeat (first | (with_reducible first | exact HB.out | apply below_alloc | apply pw_below_drewN | apply below_drew1 | refine below_set ?_ GE201.out | refine below_set ?_ GE202.out) | exact HB.out)⟩
                · rw [if_neg c11] at H
                  exact absurd H (by simp)
              · rw [if_neg c9] at H
                exact absurd H (by simp)
            · rw [if_neg c8] at H
              exact absurd H (by simp)
          · rw [if_neg c7] at H
            exact absurd H (by simp)
        · rw [if_neg c6] at H
          exact absurd H (by simp)
      · rw [if_neg c5] at H
        exact absurd H (by simp)
    · rw [if_neg c4] at H
      exact absurd H (by simp)
  · rw [if_neg c3] at H
    exact absurd H (by simp)
/-! ### api_Cmd_32: function 32 -/
def api_Cmd_32.f (l0 : List S32) (a1 : Int) : Option (List S32) := if l0 = [] ∧ 0 ≤ a1 ∧ a1 < 2513169434916 then some [] else none
set_option maxHeartbeats 8000000 in
set_option maxRecDepth 100000 in
theorem api_Cmd_32.nilcalls (a1 : Int) (r : List S32) (w : World) (h : api_Cmd_32.f [] a1 = some r) :
    Calls Try.prog 32 #[.slice none 0 0, .int .i64 a1] w fun e w' => ∃ v0_ : Value, e = .returned v0_ ∧ Kd.R k32 32 w' w.heap.size (fun _ => True) v0_ r ∧ Below w.heap.size w w' := by
  unfold api_Cmd_32.f at h
  by_cases hc : ([] : List S32) = [] ∧ 0 ≤ a1 ∧ a1 < 2513169434916
  · rw [if_pos hc] at h
    obtain rfl := Option.some.inj h
    obtain ⟨_, h0, hl⟩ := hc
    have c0 : decide (a1 < 0) = false := decide_eq_false (by omega)
    have hw : IntKind.i64.wrap (a1 - 0) = a1 := by rw [i64_w]; unfold wrap64; omega
    have hwa : IntKind.i64.wrap a1 = a1 := by rw [i64_w]; unfold wrap64; omega
    by_cases hp : 0 < a1
    · have c1 : decide (0 < a1) = true := decide_eq_true hp
      have H0 := Aside0.mk h0
      have HL := Aside0.mk hl
      clear h h0 hl hp
      go_enter Try.func32, Try.ntmps32
      go_wp2_with (first | ((with_reducible refine gate_dst (N := 22) rfl ?_); refine Kd.R_append_zeros k32 (w0 := w) w.heap.size rfl (.tmp 20) (.tmp 21) 22 3 32 (.agg #[.int .i64 0, .int .i64 0, .int .i64 0, .int .i64 0, .int .i64 0, .int .i64 0, .int .i64 0]) 56 rfl Try.underlying22 Try.underlying3 info32 rfl (by decide) (by omega) (.slice none 0 0) ([] : List S32) z32 a1 (fun _ => True) rfl rfl (k32_mkM _ _ _ _) (fun _ _ => trivial) (Kd.R_nil _ _ _ _ _) H0.out (Below.refl _ _) (Nat.le_refl _) (by have := HL.out; have := H0.out; simp only [List.length_nil]; omega) ?_; intro v1 w1 ho hb hg hat; obtain ⟨A1, c1_, e1⟩ := Kd.R_slice ho; subst e1; have HO := Aside0.mk ho; have HB := Aside0.mk hb; clear ho hb hg hat))
      go_ret
      exact ⟨_, rfl, by have h9 := Kd.R_take HO.out (m := 0) (Nat.zero_le _); rw [List.take_zero] at h9; exact h9, HB.out⟩
    · obtain rfl : a1 = 0 := by omega
      clear h h0 hl hp
      go_enter Try.func32, Try.ntmps32
      go_wp2
      go_ret
      exact ⟨_, rfl, Kd.R_nil _ _ _ _ _, Below.refl _ _⟩
  · rw [if_neg hc] at h
    exact absurd h (by simp)

end Go.Proofs.Ytmlgklklikgafaa.PPredsTells
