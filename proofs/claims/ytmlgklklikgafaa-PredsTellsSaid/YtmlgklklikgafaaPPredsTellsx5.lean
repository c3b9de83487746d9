-- Written by a program of this session, which is the kit's print with hand-given functions (wip/tools/mkprint.py).
import Derived.Test.YtmlgklklikgafaaPPredsTellsx0
import Derived.Test.YtmlgklklikgafaaPPredsTellsx3
import Derived.Test.YtmlgklklikgafaaPPredsTellsx4
namespace Go.Proofs.Ytmlgklklikgafaa.PPredsTells
open Go.RowKit Go.Proofs.YtmlgklklikgafaaW.PrintWords Go.Proofs.YtmlgklklikgafaaW.PrintLast Go.Proofs.YtmlgklklikgafaaW.PrintMore
attribute [local go_sem] max2_int min2_int max_two min_two max_three min_three max_four min_four   -- for this text's walks alone
set_option linter.unusedVariables false
set_option linter.unusedSimpArgs false

/-! ### api_Cmd_40: function 40 -/
mutual
def api_Cmd_40.l0 : Nat → List (S32) → Int → Int → Int → Option ((List (S32)))
  | 0, _, _, _, _ => none
  | k + 1, x0, x1, x10, x11 => if x10 < x11 then (if 0 ≤ (wrap64 ((IntKind.u64.wrap (wrap64 (x10 + x11))) / 2)) then (if (wrap64 ((IntKind.u64.wrap (wrap64 (x10 + x11))) / 2)) < (x0.length : Int) then (if 0 ≤ x1 then (if x1 < (x0.length : Int) then ((preds_byName.f ((rd_T32 x0 (wrap64 ((IntKind.u64.wrap (wrap64 (x10 + x11))) / 2))).f0) ((rd_T32 x0 (wrap64 ((IntKind.u64.wrap (wrap64 (x10 + x11))) / 2))).f1) ((rd_T32 x0 (wrap64 ((IntKind.u64.wrap (wrap64 (x10 + x11))) / 2))).f2) ((rd_T32 x0 (wrap64 ((IntKind.u64.wrap (wrap64 (x10 + x11))) / 2))).f3) ((rd_T32 x0 (wrap64 ((IntKind.u64.wrap (wrap64 (x10 + x11))) / 2))).f4) ((rd_T32 x0 (wrap64 ((IntKind.u64.wrap (wrap64 (x10 + x11))) / 2))).f5) ((rd_T32 x0 (wrap64 ((IntKind.u64.wrap (wrap64 (x10 + x11))) / 2))).f6) ((rd_T32 x0 x1).f0) ((rd_T32 x0 x1).f1) ((rd_T32 x0 x1).f2) ((rd_T32 x0 x1).f3) ((rd_T32 x0 x1).f4) ((rd_T32 x0 x1).f5) ((rd_T32 x0 x1).f6)).bind fun t164 => (if t164 < 0 then (api_Cmd_40.l0 k x0 x1 (wrap64 ((wrap64 ((IntKind.u64.wrap (wrap64 (x10 + x11))) / 2)) + 1)) x11) else (api_Cmd_40.l0 k x0 x1 x10 (wrap64 ((IntKind.u64.wrap (wrap64 (x10 + x11))) / 2))))) else (none)) else (none)) else (none)) else (none)) else (api_Cmd_40.l1 k x0 x10 x1)
def api_Cmd_40.l1 : Nat → List (S32) → Int → Int → Option ((List (S32)))
  | 0, _, _, _ => none
  | k + 1, x0, x10, x13 => if x13 < (wrap64 (x10 - 1)) then (if 0 ≤ (wrap64 (x13 + 1)) then (if (wrap64 (x13 + 1)) < (x0.length : Int) then (if 0 ≤ x13 then (if x13 < (x0.length : Int) then (api_Cmd_40.l1 k ((x0.set (x13 : Int).toNat (⟨(rd_T32 x0 (wrap64 (x13 + 1))).f0, (rd_T32 x0 (wrap64 (x13 + 1))).f1, (rd_T32 x0 (wrap64 (x13 + 1))).f2, (rd_T32 x0 (wrap64 (x13 + 1))).f3, (rd_T32 x0 (wrap64 (x13 + 1))).f4, (rd_T32 x0 (wrap64 (x13 + 1))).f5, (rd_T32 x0 (wrap64 (x13 + 1))).f6⟩ : S32)).set ((wrap64 (x13 + 1)) : Int).toNat (⟨(rd_T32 x0 x13).f0, (rd_T32 x0 x13).f1, (rd_T32 x0 x13).f2, (rd_T32 x0 x13).f3, (rd_T32 x0 x13).f4, (rd_T32 x0 x13).f5, (rd_T32 x0 x13).f6⟩ : S32)) x10 (wrap64 (x13 + 1))) else (none)) else (none)) else (none)) else (none)) else (some x0)
def api_Cmd_40.l2 : Nat → List (S32) → Int → Int → Int → Option ((List (S32)))
  | 0, _, _, _, _ => none
  | k + 1, x0, x2, x14, x15 => if x14 < x15 then (if 0 ≤ x2 then (if x2 < (x0.length : Int) then (if 0 ≤ (wrap64 ((IntKind.u64.wrap (wrap64 (x14 + x15))) / 2)) then (if (wrap64 ((IntKind.u64.wrap (wrap64 (x14 + x15))) / 2)) < (x0.length : Int) then ((preds_byName.f ((rd_T32 x0 x2).f0) ((rd_T32 x0 x2).f1) ((rd_T32 x0 x2).f2) ((rd_T32 x0 x2).f3) ((rd_T32 x0 x2).f4) ((rd_T32 x0 x2).f5) ((rd_T32 x0 x2).f6) ((rd_T32 x0 (wrap64 ((IntKind.u64.wrap (wrap64 (x14 + x15))) / 2))).f0) ((rd_T32 x0 (wrap64 ((IntKind.u64.wrap (wrap64 (x14 + x15))) / 2))).f1) ((rd_T32 x0 (wrap64 ((IntKind.u64.wrap (wrap64 (x14 + x15))) / 2))).f2) ((rd_T32 x0 (wrap64 ((IntKind.u64.wrap (wrap64 (x14 + x15))) / 2))).f3) ((rd_T32 x0 (wrap64 ((IntKind.u64.wrap (wrap64 (x14 + x15))) / 2))).f4) ((rd_T32 x0 (wrap64 ((IntKind.u64.wrap (wrap64 (x14 + x15))) / 2))).f5) ((rd_T32 x0 (wrap64 ((IntKind.u64.wrap (wrap64 (x14 + x15))) / 2))).f6)).bind fun t171 => (if t171 < 0 then (api_Cmd_40.l2 k x0 x2 x14 (wrap64 ((IntKind.u64.wrap (wrap64 (x14 + x15))) / 2))) else (api_Cmd_40.l2 k x0 x2 (wrap64 ((wrap64 ((IntKind.u64.wrap (wrap64 (x14 + x15))) / 2)) + 1)) x15))) else (none)) else (none)) else (none)) else (none)) else (api_Cmd_40.l3 k x0 x14 x2)
def api_Cmd_40.l3 : Nat → List (S32) → Int → Int → Option ((List (S32)))
  | 0, _, _, _ => none
  | k + 1, x0, x14, x17 => if x17 > x14 then (if 0 ≤ (wrap64 (x17 - 1)) then (if (wrap64 (x17 - 1)) < (x0.length : Int) then (if 0 ≤ x17 then (if x17 < (x0.length : Int) then (api_Cmd_40.l3 k ((x0.set (x17 : Int).toNat (⟨(rd_T32 x0 (wrap64 (x17 - 1))).f0, (rd_T32 x0 (wrap64 (x17 - 1))).f1, (rd_T32 x0 (wrap64 (x17 - 1))).f2, (rd_T32 x0 (wrap64 (x17 - 1))).f3, (rd_T32 x0 (wrap64 (x17 - 1))).f4, (rd_T32 x0 (wrap64 (x17 - 1))).f5, (rd_T32 x0 (wrap64 (x17 - 1))).f6⟩ : S32)).set ((wrap64 (x17 - 1)) : Int).toNat (⟨(rd_T32 x0 x17).f0, (rd_T32 x0 x17).f1, (rd_T32 x0 x17).f2, (rd_T32 x0 x17).f3, (rd_T32 x0 x17).f4, (rd_T32 x0 x17).f5, (rd_T32 x0 x17).f6⟩ : S32)) x14 (wrap64 (x17 - 1))) else (none)) else (none)) else (none)) else (none)) else (some x0)
def api_Cmd_40.j4 : Nat → List (S32) → Int → Int → Int → Int → Int → Int → Int → Int → Option ((List (S32)))
  | 0, _, _, _, _, _, _, _, _, _ => none
  | k + 1, x0, x1, x2, x3, x4, x18, x19, x20, x21 => api_Cmd_40.l4 k x0 x1 x2 x3 x4 x18 x19 x20 x21 (wrap64 (x19 - 1))
def api_Cmd_40.l4 : Nat → List (S32) → Int → Int → Int → Int → Int → Int → Int → Int → Int → Option ((List (S32)))
  | 0, _, _, _, _, _, _, _, _, _, _ => none
  | k + 1, x0, x1, x2, x3, x4, x18, x19, x20, x21, x22 => if x20 < x21 then (if 0 ≤ (wrap64 (x22 - (wrap64 ((IntKind.u64.wrap (wrap64 (x20 + x21))) / 2)))) then (if (wrap64 (x22 - (wrap64 ((IntKind.u64.wrap (wrap64 (x20 + x21))) / 2)))) < (x0.length : Int) then (if 0 ≤ (wrap64 ((IntKind.u64.wrap (wrap64 (x20 + x21))) / 2)) then (if (wrap64 ((IntKind.u64.wrap (wrap64 (x20 + x21))) / 2)) < (x0.length : Int) then ((preds_byName.f ((rd_T32 x0 (wrap64 (x22 - (wrap64 ((IntKind.u64.wrap (wrap64 (x20 + x21))) / 2))))).f0) ((rd_T32 x0 (wrap64 (x22 - (wrap64 ((IntKind.u64.wrap (wrap64 (x20 + x21))) / 2))))).f1) ((rd_T32 x0 (wrap64 (x22 - (wrap64 ((IntKind.u64.wrap (wrap64 (x20 + x21))) / 2))))).f2) ((rd_T32 x0 (wrap64 (x22 - (wrap64 ((IntKind.u64.wrap (wrap64 (x20 + x21))) / 2))))).f3) ((rd_T32 x0 (wrap64 (x22 - (wrap64 ((IntKind.u64.wrap (wrap64 (x20 + x21))) / 2))))).f4) ((rd_T32 x0 (wrap64 (x22 - (wrap64 ((IntKind.u64.wrap (wrap64 (x20 + x21))) / 2))))).f5) ((rd_T32 x0 (wrap64 (x22 - (wrap64 ((IntKind.u64.wrap (wrap64 (x20 + x21))) / 2))))).f6) ((rd_T32 x0 (wrap64 ((IntKind.u64.wrap (wrap64 (x20 + x21))) / 2))).f0) ((rd_T32 x0 (wrap64 ((IntKind.u64.wrap (wrap64 (x20 + x21))) / 2))).f1) ((rd_T32 x0 (wrap64 ((IntKind.u64.wrap (wrap64 (x20 + x21))) / 2))).f2) ((rd_T32 x0 (wrap64 ((IntKind.u64.wrap (wrap64 (x20 + x21))) / 2))).f3) ((rd_T32 x0 (wrap64 ((IntKind.u64.wrap (wrap64 (x20 + x21))) / 2))).f4) ((rd_T32 x0 (wrap64 ((IntKind.u64.wrap (wrap64 (x20 + x21))) / 2))).f5) ((rd_T32 x0 (wrap64 ((IntKind.u64.wrap (wrap64 (x20 + x21))) / 2))).f6)).bind fun t178 => (if t178 < 0 then (api_Cmd_40.l4 k x0 x1 x2 x3 x4 x18 x19 x20 (wrap64 ((IntKind.u64.wrap (wrap64 (x20 + x21))) / 2)) x22) else (api_Cmd_40.l4 k x0 x1 x2 x3 x4 x18 x19 (wrap64 ((wrap64 ((IntKind.u64.wrap (wrap64 (x20 + x21))) / 2)) + 1)) x21 x22))) else (none)) else (none)) else (none)) else (none)) else (if x20 < x2 then (api_Cmd_40.j6 k x0 x1 x2 x3 x4 x18 x20 (wrap64 (x19 - x20)) (decide (x2 < (wrap64 (x19 - x20))))) else (api_Cmd_40.j6 k x0 x1 x2 x3 x4 x18 x20 (wrap64 (x19 - x20)) false))
def api_Cmd_40.j6 : Nat → List (S32) → Int → Int → Int → Int → Int → Int → Int → Bool → Option ((List (S32)))
  | 0, _, _, _, _, _, _, _, _, _ => none
  | k + 1, x0, x1, x2, x3, x4, x18, x20, x24, x185 => if x185 = true then ((api_Cmd_46.f k x0 x20 x2 x24 x4).bind fun t179 => (api_Cmd_40.j7 k t179 x1 x3 x4 x18 x20 x24)) else (api_Cmd_40.j7 k x0 x1 x3 x4 x18 x20 x24)
def api_Cmd_40.j7 : Nat → List (S32) → Int → Int → Int → Int → Int → Int → Option ((List (S32)))
  | 0, _, _, _, _, _, _, _ => none
  | k + 1, x0, x1, x3, x4, x18, x20, x24 => if x1 < x20 then (api_Cmd_40.j8 k x0 x1 x3 x4 x18 x20 x24 (decide (x20 < x18))) else (api_Cmd_40.j8 k x0 x1 x3 x4 x18 x20 x24 false)
def api_Cmd_40.j8 : Nat → List (S32) → Int → Int → Int → Int → Int → Int → Bool → Option ((List (S32)))
  | 0, _, _, _, _, _, _, _, _ => none
  | k + 1, x0, x1, x3, x4, x18, x20, x24, x199 => if x199 = true then ((api_Cmd_40.f k x0 x1 x20 x18 x4).bind fun t180 => (if x18 < x24 then (if x24 < x3 then ((api_Cmd_40.f k t180 x18 x24 x3 x4).bind fun t181 => (some t181)) else (some t180)) else (some t180))) else (if x18 < x24 then (if x24 < x3 then ((api_Cmd_40.f k x0 x18 x24 x3 x4).bind fun t182 => (some t182)) else (some x0)) else (some x0))
def api_Cmd_40.f : Nat → List (S32) → Int → Int → Int → Int → Option ((List (S32)))
  | 0, _, _, _, _, _ => none
  | k + 1, l0, a1, a2, a3, a4 => if (wrap64 (a2 - a1)) = 1 then (api_Cmd_40.l0 k l0 a1 a2 a3) else (if (wrap64 (a3 - a2)) = 1 then (api_Cmd_40.l2 k l0 a2 a1 a2) else (if a2 > (wrap64 ((IntKind.u64.wrap (wrap64 (a1 + a3))) / 2)) then (api_Cmd_40.j4 k l0 a1 a2 a3 a4 (wrap64 ((IntKind.u64.wrap (wrap64 (a1 + a3))) / 2)) (wrap64 ((wrap64 ((IntKind.u64.wrap (wrap64 (a1 + a3))) / 2)) + a2)) (wrap64 ((wrap64 ((wrap64 ((IntKind.u64.wrap (wrap64 (a1 + a3))) / 2)) + a2)) - a3)) (wrap64 ((IntKind.u64.wrap (wrap64 (a1 + a3))) / 2))) else (api_Cmd_40.j4 k l0 a1 a2 a3 a4 (wrap64 ((IntKind.u64.wrap (wrap64 (a1 + a3))) / 2)) (wrap64 ((wrap64 ((IntKind.u64.wrap (wrap64 (a1 + a3))) / 2)) + a2)) a1 a2)))
end
theorem api_Cmd_40.mono_l : ∀ k, (∀ y0 y1 y2 y3 y4, LeO (api_Cmd_40.f k y0 y1 y2 y3 y4) (api_Cmd_40.f (k + 1) y0 y1 y2 y3 y4)) ∧ (∀ y0 y1 y2 y3, LeO (api_Cmd_40.l0 k y0 y1 y2 y3) (api_Cmd_40.l0 (k + 1) y0 y1 y2 y3)) ∧ (∀ y0 y1 y2, LeO (api_Cmd_40.l1 k y0 y1 y2) (api_Cmd_40.l1 (k + 1) y0 y1 y2)) ∧ (∀ y0 y1 y2 y3, LeO (api_Cmd_40.l2 k y0 y1 y2 y3) (api_Cmd_40.l2 (k + 1) y0 y1 y2 y3)) ∧ (∀ y0 y1 y2, LeO (api_Cmd_40.l3 k y0 y1 y2) (api_Cmd_40.l3 (k + 1) y0 y1 y2)) ∧ (∀ y0 y1 y2 y3 y4 y5 y6 y7 y8, LeO (api_Cmd_40.j4 k y0 y1 y2 y3 y4 y5 y6 y7 y8) (api_Cmd_40.j4 (k + 1) y0 y1 y2 y3 y4 y5 y6 y7 y8)) ∧ (∀ y0 y1 y2 y3 y4 y5 y6 y7 y8 y9, LeO (api_Cmd_40.l4 k y0 y1 y2 y3 y4 y5 y6 y7 y8 y9) (api_Cmd_40.l4 (k + 1) y0 y1 y2 y3 y4 y5 y6 y7 y8 y9)) ∧ (∀ y0 y1 y2 y3 y4 y5 y6 y7 y8, LeO (api_Cmd_40.j6 k y0 y1 y2 y3 y4 y5 y6 y7 y8) (api_Cmd_40.j6 (k + 1) y0 y1 y2 y3 y4 y5 y6 y7 y8)) ∧ (∀ y0 y1 y2 y3 y4 y5 y6, LeO (api_Cmd_40.j7 k y0 y1 y2 y3 y4 y5 y6) (api_Cmd_40.j7 (k + 1) y0 y1 y2 y3 y4 y5 y6)) ∧ (∀ y0 y1 y2 y3 y4 y5 y6 y7, LeO (api_Cmd_40.j8 k y0 y1 y2 y3 y4 y5 y6 y7) (api_Cmd_40.j8 (k + 1) y0 y1 y2 y3 y4 y5 y6 y7))
  | 0 => ⟨fun _ _ _ _ _ r h => by simp [api_Cmd_40.f] at h, fun _ _ _ _ r h => by simp [api_Cmd_40.l0] at h, fun _ _ _ r h => by simp [api_Cmd_40.l1] at h, fun _ _ _ _ r h => by simp [api_Cmd_40.l2] at h, fun _ _ _ r h => by simp [api_Cmd_40.l3] at h, fun _ _ _ _ _ _ _ _ _ r h => by simp [api_Cmd_40.j4] at h, fun _ _ _ _ _ _ _ _ _ _ r h => by simp [api_Cmd_40.l4] at h, fun _ _ _ _ _ _ _ _ _ r h => by simp [api_Cmd_40.j6] at h, fun _ _ _ _ _ _ _ r h => by simp [api_Cmd_40.j7] at h, fun _ _ _ _ _ _ _ _ r h => by simp [api_Cmd_40.j8] at h⟩
  | k + 1 => by
    obtain ⟨ih0, ih1, ih2, ih3, ih4, ih5, ih6, ih7, ih8, ih9⟩ := api_Cmd_40.mono_l k
    refine ⟨?_, ?_, ?_, ?_, ?_, ?_, ?_, ?_, ?_, ?_⟩
    · intro y0 y1 y2 y3 y4
      unfold api_Cmd_40.f
      repeat' first
      | (with_reducible exact ih0 _ _ _ _ _)
      | (with_reducible exact ih1 _ _ _ _)
      | (with_reducible exact ih2 _ _ _)
      | (with_reducible exact ih3 _ _ _ _)
      | (with_reducible exact ih4 _ _ _)
      | (with_reducible exact ih5 _ _ _ _ _ _ _ _ _)
      | (with_reducible exact ih6 _ _ _ _ _ _ _ _ _ _)
      | (with_reducible exact ih7 _ _ _ _ _ _ _ _ _)
      | (with_reducible exact ih8 _ _ _ _ _ _ _)
      | (with_reducible exact ih9 _ _ _ _ _ _ _ _)
      | (with_reducible exact api_Cmd_46.mono _ _ _ _ _ _)
      | (with_reducible exact LeO.refl _)
      | (with_reducible exact LeO.none _)
      | (with_reducible refine LeO.ite ?_ ?_)
      | (with_reducible refine LeO.bind ?_ (fun _ => ?_))
      | exact ih0 _ _ _ _ _
      | exact ih1 _ _ _ _
      | exact ih2 _ _ _
      | exact ih3 _ _ _ _
      | exact ih4 _ _ _
      | exact ih5 _ _ _ _ _ _ _ _ _
      | exact ih6 _ _ _ _ _ _ _ _ _ _
      | exact ih7 _ _ _ _ _ _ _ _ _
      | exact ih8 _ _ _ _ _ _ _
      | exact ih9 _ _ _ _ _ _ _ _
      | exact api_Cmd_46.mono _ _ _ _ _ _
      | exact LeO.none _
      | refine LeO.ite ?_ ?_
      | refine LeO.bind ?_ (fun _ => ?_)
    · intro y0 y1 y2 y3
      unfold api_Cmd_40.l0
      repeat' first
      | (with_reducible exact ih0 _ _ _ _ _)
      | (with_reducible exact ih1 _ _ _ _)
      | (with_reducible exact ih2 _ _ _)
      | (with_reducible exact ih3 _ _ _ _)
      | (with_reducible exact ih4 _ _ _)
      | (with_reducible exact ih5 _ _ _ _ _ _ _ _ _)
      | (with_reducible exact ih6 _ _ _ _ _ _ _ _ _ _)
      | (with_reducible exact ih7 _ _ _ _ _ _ _ _ _)
      | (with_reducible exact ih8 _ _ _ _ _ _ _)
      | (with_reducible exact ih9 _ _ _ _ _ _ _ _)
      | (with_reducible exact api_Cmd_46.mono _ _ _ _ _ _)
      | (with_reducible exact LeO.refl _)
      | (with_reducible exact LeO.none _)
      | (with_reducible refine LeO.ite ?_ ?_)
      | (with_reducible refine LeO.bind ?_ (fun _ => ?_))
      | exact ih0 _ _ _ _ _
      | exact ih1 _ _ _ _
      | exact ih2 _ _ _
      | exact ih3 _ _ _ _
      | exact ih4 _ _ _
      | exact ih5 _ _ _ _ _ _ _ _ _
      | exact ih6 _ _ _ _ _ _ _ _ _ _
      | exact ih7 _ _ _ _ _ _ _ _ _
      | exact ih8 _ _ _ _ _ _ _
      | exact ih9 _ _ _ _ _ _ _ _
      | exact api_Cmd_46.mono _ _ _ _ _ _
      | exact LeO.none _
      | refine LeO.ite ?_ ?_
      | refine LeO.bind ?_ (fun _ => ?_)
    · intro y0 y1 y2
      unfold api_Cmd_40.l1
      repeat' first
      | (with_reducible exact ih0 _ _ _ _ _)
      | (with_reducible exact ih1 _ _ _ _)
      | (with_reducible exact ih2 _ _ _)
      | (with_reducible exact ih3 _ _ _ _)
      | (with_reducible exact ih4 _ _ _)
      | (with_reducible exact ih5 _ _ _ _ _ _ _ _ _)
      | (with_reducible exact ih6 _ _ _ _ _ _ _ _ _ _)
      | (with_reducible exact ih7 _ _ _ _ _ _ _ _ _)
      | (with_reducible exact ih8 _ _ _ _ _ _ _)
      | (with_reducible exact ih9 _ _ _ _ _ _ _ _)
      | (with_reducible exact api_Cmd_46.mono _ _ _ _ _ _)
      | (with_reducible exact LeO.refl _)
      | (with_reducible exact LeO.none _)
      | (with_reducible refine LeO.ite ?_ ?_)
      | (with_reducible refine LeO.bind ?_ (fun _ => ?_))
      | exact ih0 _ _ _ _ _
      | exact ih1 _ _ _ _
      | exact ih2 _ _ _
      | exact ih3 _ _ _ _
      | exact ih4 _ _ _
      | exact ih5 _ _ _ _ _ _ _ _ _
      | exact ih6 _ _ _ _ _ _ _ _ _ _
      | exact ih7 _ _ _ _ _ _ _ _ _
      | exact ih8 _ _ _ _ _ _ _
      | exact ih9 _ _ _ _ _ _ _ _
      | exact api_Cmd_46.mono _ _ _ _ _ _
      | exact LeO.none _
      | refine LeO.ite ?_ ?_
      | refine LeO.bind ?_ (fun _ => ?_)
    · intro y0 y1 y2 y3
      unfold api_Cmd_40.l2
      repeat' first
      | (with_reducible exact ih0 _ _ _ _ _)
      | (with_reducible exact ih1 _ _ _ _)
      | (with_reducible exact ih2 _ _ _)
      | (with_reducible exact ih3 _ _ _ _)
      | (with_reducible exact ih4 _ _ _)
      | (with_reducible exact ih5 _ _ _ _ _ _ _ _ _)
      | (with_reducible exact ih6 _ _ _ _ _ _ _ _ _ _)
      | (with_reducible exact ih7 _ _ _ _ _ _ _ _ _)
      | (with_reducible exact ih8 _ _ _ _ _ _ _)
      | (with_reducible exact ih9 _ _ _ _ _ _ _ _)
      | (with_reducible exact api_Cmd_46.mono _ _ _ _ _ _)
      | (with_reducible exact LeO.refl _)
      | (with_reducible exact LeO.none _)
      | (with_reducible refine LeO.ite ?_ ?_)
      | (with_reducible refine LeO.bind ?_ (fun _ => ?_))
      | exact ih0 _ _ _ _ _
      | exact ih1 _ _ _ _
      | exact ih2 _ _ _
      | exact ih3 _ _ _ _
      | exact ih4 _ _ _
      | exact ih5 _ _ _ _ _ _ _ _ _
      | exact ih6 _ _ _ _ _ _ _ _ _ _
      | exact ih7 _ _ _ _ _ _ _ _ _
      | exact ih8 _ _ _ _ _ _ _
      | exact ih9 _ _ _ _ _ _ _ _
      | exact api_Cmd_46.mono _ _ _ _ _ _
      | exact LeO.none _
      | refine LeO.ite ?_ ?_
      | refine LeO.bind ?_ (fun _ => ?_)
    · intro y0 y1 y2
      unfold api_Cmd_40.l3
      repeat' first
      | (with_reducible exact ih0 _ _ _ _ _)
      | (with_reducible exact ih1 _ _ _ _)
      | (with_reducible exact ih2 _ _ _)
      | (with_reducible exact ih3 _ _ _ _)
      | (with_reducible exact ih4 _ _ _)
      | (with_reducible exact ih5 _ _ _ _ _ _ _ _ _)
      | (with_reducible exact ih6 _ _ _ _ _ _ _ _ _ _)
      | (with_reducible exact ih7 _ _ _ _ _ _ _ _ _)
      | (with_reducible exact ih8 _ _ _ _ _ _ _)
      | (with_reducible exact ih9 _ _ _ _ _ _ _ _)
      | (with_reducible exact api_Cmd_46.mono _ _ _ _ _ _)
      | (with_reducible exact LeO.refl _)
      | (with_reducible exact LeO.none _)
      | (with_reducible refine LeO.ite ?_ ?_)
      | (with_reducible refine LeO.bind ?_ (fun _ => ?_))
      | exact ih0 _ _ _ _ _
      | exact ih1 _ _ _ _
      | exact ih2 _ _ _
      | exact ih3 _ _ _ _
      | exact ih4 _ _ _
      | exact ih5 _ _ _ _ _ _ _ _ _
      | exact ih6 _ _ _ _ _ _ _ _ _ _
      | exact ih7 _ _ _ _ _ _ _ _ _
      | exact ih8 _ _ _ _ _ _ _
      | exact ih9 _ _ _ _ _ _ _ _
      | exact api_Cmd_46.mono _ _ _ _ _ _
      | exact LeO.none _
      | refine LeO.ite ?_ ?_
      | refine LeO.bind ?_ (fun _ => ?_)
    · intro y0 y1 y2 y3 y4 y5 y6 y7 y8
      unfold api_Cmd_40.j4
      repeat' first
      | (with_reducible exact ih0 _ _ _ _ _)
      | (with_reducible exact ih1 _ _ _ _)
      | (with_reducible exact ih2 _ _ _)
      | (with_reducible exact ih3 _ _ _ _)
      | (with_reducible exact ih4 _ _ _)
      | (with_reducible exact ih5 _ _ _ _ _ _ _ _ _)
      | (with_reducible exact ih6 _ _ _ _ _ _ _ _ _ _)
      | (with_reducible exact ih7 _ _ _ _ _ _ _ _ _)
      | (with_reducible exact ih8 _ _ _ _ _ _ _)
      | (with_reducible exact ih9 _ _ _ _ _ _ _ _)
      | (with_reducible exact api_Cmd_46.mono _ _ _ _ _ _)
      | (with_reducible exact LeO.refl _)
      | (with_reducible exact LeO.none _)
      | (with_reducible refine LeO.ite ?_ ?_)
      | (with_reducible refine LeO.bind ?_ (fun _ => ?_))
      | exact ih0 _ _ _ _ _
      | exact ih1 _ _ _ _
      | exact ih2 _ _ _
      | exact ih3 _ _ _ _
      | exact ih4 _ _ _
      | exact ih5 _ _ _ _ _ _ _ _ _
      | exact ih6 _ _ _ _ _ _ _ _ _ _
      | exact ih7 _ _ _ _ _ _ _ _ _
      | exact ih8 _ _ _ _ _ _ _
      | exact ih9 _ _ _ _ _ _ _ _
      | exact api_Cmd_46.mono _ _ _ _ _ _
      | exact LeO.none _
      | refine LeO.ite ?_ ?_
      | refine LeO.bind ?_ (fun _ => ?_)
    · intro y0 y1 y2 y3 y4 y5 y6 y7 y8 y9
      unfold api_Cmd_40.l4
      repeat' first
      | (with_reducible exact ih0 _ _ _ _ _)
      | (with_reducible exact ih1 _ _ _ _)
      | (with_reducible exact ih2 _ _ _)
      | (with_reducible exact ih3 _ _ _ _)
      | (with_reducible exact ih4 _ _ _)
      | (with_reducible exact ih5 _ _ _ _ _ _ _ _ _)
      | (with_reducible exact ih6 _ _ _ _ _ _ _ _ _ _)
      | (with_reducible exact ih7 _ _ _ _ _ _ _ _ _)
      | (with_reducible exact ih8 _ _ _ _ _ _ _)
      | (with_reducible exact ih9 _ _ _ _ _ _ _ _)
      | (with_reducible exact api_Cmd_46.mono _ _ _ _ _ _)
      | (with_reducible exact LeO.refl _)
      | (with_reducible exact LeO.none _)
      | (with_reducible refine LeO.ite ?_ ?_)
      | (with_reducible refine LeO.bind ?_ (fun _ => ?_))
      | exact ih0 _ _ _ _ _
      | exact ih1 _ _ _ _
      | exact ih2 _ _ _
      | exact ih3 _ _ _ _
      | exact ih4 _ _ _
      | exact ih5 _ _ _ _ _ _ _ _ _
      | exact ih6 _ _ _ _ _ _ _ _ _ _
      | exact ih7 _ _ _ _ _ _ _ _ _
      | exact ih8 _ _ _ _ _ _ _
      | exact ih9 _ _ _ _ _ _ _ _
      | exact api_Cmd_46.mono _ _ _ _ _ _
      | exact LeO.none _
      | refine LeO.ite ?_ ?_
      | refine LeO.bind ?_ (fun _ => ?_)
    · intro y0 y1 y2 y3 y4 y5 y6 y7 y8
      unfold api_Cmd_40.j6
      repeat' first
      | (with_reducible exact ih0 _ _ _ _ _)
      | (with_reducible exact ih1 _ _ _ _)
      | (with_reducible exact ih2 _ _ _)
      | (with_reducible exact ih3 _ _ _ _)
      | (with_reducible exact ih4 _ _ _)
      | (with_reducible exact ih5 _ _ _ _ _ _ _ _ _)
      | (with_reducible exact ih6 _ _ _ _ _ _ _ _ _ _)
      | (with_reducible exact ih7 _ _ _ _ _ _ _ _ _)
      | (with_reducible exact ih8 _ _ _ _ _ _ _)
      | (with_reducible exact ih9 _ _ _ _ _ _ _ _)
      | (with_reducible exact api_Cmd_46.mono _ _ _ _ _ _)
      | (with_reducible exact LeO.refl _)
      | (with_reducible exact LeO.none _)
      | (with_reducible refine LeO.ite ?_ ?_)
      | (with_reducible refine LeO.bind ?_ (fun _ => ?_))
      | exact ih0 _ _ _ _ _
      | exact ih1 _ _ _ _
      | exact ih2 _ _ _
      | exact ih3 _ _ _ _
      | exact ih4 _ _ _
      | exact ih5 _ _ _ _ _ _ _ _ _
      | exact ih6 _ _ _ _ _ _ _ _ _ _
      | exact ih7 _ _ _ _ _ _ _ _ _
      | exact ih8 _ _ _ _ _ _ _
      | exact ih9 _ _ _ _ _ _ _ _
      | exact api_Cmd_46.mono _ _ _ _ _ _
      | exact LeO.none _
      | refine LeO.ite ?_ ?_
      | refine LeO.bind ?_ (fun _ => ?_)
    · intro y0 y1 y2 y3 y4 y5 y6
      unfold api_Cmd_40.j7
      repeat' first
      | (with_reducible exact ih0 _ _ _ _ _)
      | (with_reducible exact ih1 _ _ _ _)
      | (with_reducible exact ih2 _ _ _)
      | (with_reducible exact ih3 _ _ _ _)
      | (with_reducible exact ih4 _ _ _)
      | (with_reducible exact ih5 _ _ _ _ _ _ _ _ _)
      | (with_reducible exact ih6 _ _ _ _ _ _ _ _ _ _)
      | (with_reducible exact ih7 _ _ _ _ _ _ _ _ _)
      | (with_reducible exact ih8 _ _ _ _ _ _ _)
      | (with_reducible exact ih9 _ _ _ _ _ _ _ _)
      | (with_reducible exact api_Cmd_46.mono _ _ _ _ _ _)
      | (with_reducible exact LeO.refl _)
      | (with_reducible exact LeO.none _)
      | (with_reducible refine LeO.ite ?_ ?_)
      | (with_reducible refine LeO.bind ?_ (fun _ => ?_))
      | exact ih0 _ _ _ _ _
      | exact ih1 _ _ _ _
      | exact ih2 _ _ _
      | exact ih3 _ _ _ _
      | exact ih4 _ _ _
      | exact ih5 _ _ _ _ _ _ _ _ _
      | exact ih6 _ _ _ _ _ _ _ _ _ _
      | exact ih7 _ _ _ _ _ _ _ _ _
      | exact ih8 _ _ _ _ _ _ _
      | exact ih9 _ _ _ _ _ _ _ _
      | exact api_Cmd_46.mono _ _ _ _ _ _
      | exact LeO.none _
      | refine LeO.ite ?_ ?_
      | refine LeO.bind ?_ (fun _ => ?_)
    · intro y0 y1 y2 y3 y4 y5 y6 y7
      unfold api_Cmd_40.j8
      repeat' first
      | (with_reducible exact ih0 _ _ _ _ _)
      | (with_reducible exact ih1 _ _ _ _)
      | (with_reducible exact ih2 _ _ _)
      | (with_reducible exact ih3 _ _ _ _)
      | (with_reducible exact ih4 _ _ _)
      | (with_reducible exact ih5 _ _ _ _ _ _ _ _ _)
      | (with_reducible exact ih6 _ _ _ _ _ _ _ _ _ _)
      | (with_reducible exact ih7 _ _ _ _ _ _ _ _ _)
      | (with_reducible exact ih8 _ _ _ _ _ _ _)
      | (with_reducible exact ih9 _ _ _ _ _ _ _ _)
      | (with_reducible exact api_Cmd_46.mono _ _ _ _ _ _)
      | (with_reducible exact LeO.refl _)
      | (with_reducible exact LeO.none _)
      | (with_reducible refine LeO.ite ?_ ?_)
      | (with_reducible refine LeO.bind ?_ (fun _ => ?_))
      | exact ih0 _ _ _ _ _
      | exact ih1 _ _ _ _
      | exact ih2 _ _ _
      | exact ih3 _ _ _ _
      | exact ih4 _ _ _
      | exact ih5 _ _ _ _ _ _ _ _ _
      | exact ih6 _ _ _ _ _ _ _ _ _ _
      | exact ih7 _ _ _ _ _ _ _ _ _
      | exact ih8 _ _ _ _ _ _ _
      | exact ih9 _ _ _ _ _ _ _ _
      | exact api_Cmd_46.mono _ _ _ _ _ _
      | exact LeO.none _
      | refine LeO.ite ?_ ?_
      | refine LeO.bind ?_ (fun _ => ?_)
theorem api_Cmd_40.mono : ∀ a0 a1 a2 a3 a4 k, LeO (api_Cmd_40.f k a0 a1 a2 a3 a4) (api_Cmd_40.f (k + 1) a0 a1 a2 a3 a4) := by
  intro a0 a1 a2 a3 a4 k
  obtain ⟨ih0, ih1, ih2, ih3, ih4, ih5, ih6, ih7, ih8, ih9⟩ := api_Cmd_40.mono_l k
  exact ih0 a0 a1 a2 a3 a4
def api_Cmd_40.T5 : Bool × List (List Nat × List Nat) := (true, [([], []), ([], []), ([], []), ([1, 2], [1, 2]), ([3], [3]), ([], []), ([], []), ([5, 6], [5, 6]), ([7], [7]), ([0, 4, 8], [0, 4, 8]), ([9], [9])])
def api_Cmd_40.B5 : List Nat := [0, 0, 0, 6, 14, 0, 0, 96, 224, 511, 1023]
theorem api_Cmd_40.tab5 : rtab .any (opsOf Try.f40 5) = api_Cmd_40.T5 := by kernel_rfl
theorem api_Cmd_40.bits5 : waitsOk api_Cmd_40.T5.2 api_Cmd_40.B5 = true := by kernel_rfl
def api_Cmd_40.T11 : Bool × List (List Nat × List Nat) := (true, [([], []), ([], []), ([], []), ([], []), ([3], [3]), ([], []), ([], []), ([6], [6]), ([5, 7], [5, 7]), ([8], [8]), ([], []), ([], []), ([10, 11], [10, 11]), ([12], [12]), ([0, 1, 0, 1, 5, 6, 7, 8, 9, 13], [0, 1]), ([14, 9, 0, 1, 5, 6, 7, 8, 9, 13], [9, 14]), ([2, 4, 0, 1, 2, 3, 4, 5, 6, 7, 8, 9, 10, 11, 12, 13, 14, 15], [2, 4]), ([16, 13, 15, 0, 1, 2, 3, 4, 5, 6, 7, 8, 9, 10, 11, 12, 13, 14, 15], [13, 16])])
def api_Cmd_40.B11 : List Nat := [0, 0, 0, 0, 8, 0, 0, 64, 224, 480, 0, 0, 3072, 7168, 16355, 32739, 65535, 131071]
theorem api_Cmd_40.tab11 : rtab .any (opsOf Try.f40 11) = api_Cmd_40.T11 := by kernel_rfl
theorem api_Cmd_40.bits11 : waitsOk api_Cmd_40.T11.2 api_Cmd_40.B11 = true := by kernel_rfl
def api_Cmd_40.T17 : Bool × List (List Nat × List Nat) := (true, [([], []), ([], []), ([], []), ([1, 2], [1, 2]), ([3], [3]), ([], []), ([], []), ([5, 6], [5, 6]), ([7], [7]), ([0, 4, 8], [0, 4, 8]), ([9], [9]), ([10], [10])])
def api_Cmd_40.B17 : List Nat := [0, 0, 0, 6, 14, 0, 0, 96, 224, 511, 1023, 2047]
theorem api_Cmd_40.tab17 : rtab .any (opsOf Try.f40 17) = api_Cmd_40.T17 := by kernel_rfl
theorem api_Cmd_40.bits17 : waitsOk api_Cmd_40.T17.2 api_Cmd_40.B17 = true := by kernel_rfl
def api_Cmd_40.T23 : Bool × List (List Nat × List Nat) := (true, [([], []), ([], []), ([], []), ([], []), ([3], [3]), ([], []), ([], []), ([6], [6]), ([5, 7], [5, 7]), ([8], [8]), ([], []), ([], []), ([10, 11], [10, 11]), ([12], [12]), ([0, 1, 0, 1, 5, 6, 7, 8, 9, 13], [0, 1]), ([14, 9, 0, 1, 5, 6, 7, 8, 9, 13], [9, 14]), ([2, 4, 0, 1, 2, 3, 4, 5, 6, 7, 8, 9, 10, 11, 12, 13, 14, 15], [2, 4]), ([16, 13, 15, 0, 1, 2, 3, 4, 5, 6, 7, 8, 9, 10, 11, 12, 13, 14, 15], [13, 16])])
def api_Cmd_40.B23 : List Nat := [0, 0, 0, 0, 8, 0, 0, 64, 224, 480, 0, 0, 3072, 7168, 16355, 32739, 65535, 131071]
theorem api_Cmd_40.tab23 : rtab .any (opsOf Try.f40 23) = api_Cmd_40.T23 := by kernel_rfl
theorem api_Cmd_40.bits23 : waitsOk api_Cmd_40.T23.2 api_Cmd_40.B23 = true := by kernel_rfl
def api_Cmd_40.T35 : Bool × List (List Nat × List Nat) := (true, [([], []), ([], []), ([], []), ([], []), ([2, 3], [2, 3]), ([1, 4], [1, 4]), ([5], [5]), ([], []), ([], []), ([7, 8], [7, 8]), ([9], [9]), ([0, 6, 10], [0, 6, 10]), ([11], [11]), ([12], [12])])
def api_Cmd_40.B35 : List Nat := [0, 0, 0, 0, 12, 30, 62, 0, 0, 384, 896, 2047, 4095, 8191]
theorem api_Cmd_40.tab35 : rtab .any (opsOf Try.f40 35) = api_Cmd_40.T35 := by kernel_rfl
theorem api_Cmd_40.bits35 : waitsOk api_Cmd_40.T35.2 api_Cmd_40.B35 = true := by kernel_rfl
set_option maxHeartbeats 8000000 in
set_option maxRecDepth 100000 in
theorem api_Cmd_40.calls_a (k : Nat) (ih : ∀ m_ : Nat, m_ < k + 1 → ∀ (P0_ : Nat → Prop) (u9000_ : Value) (l0 : List (S32)) (a1 : Int) (a2 : Int) (a3 : Int) (a4 : Int) (r : List (S32)) (w0 w : World) (hB : Below w0.heap.size w0 w) (ho0 : Kd.R k32 32 w w0.heap.size P0_ u9000_ l0) (h : api_Cmd_40.f m_ l0 a1 a2 a3 a4 = some r),
    Calls Try.prog 40 #[u9000_, .int .i64 a1, .int .i64 a2, .int .i64 a3, .func (.func 26) #[] #[]] w fun e w' => e = .returned (.tuple #[]) ∧ Kd.R k32 32 w' w0.heap.size (fun k_ => (P0_ k_ ∨ w.heap.size ≤ k_)) u9000_ r ∧ Below w0.heap.size w0 w' ∧ Kept w w' (fun k_ => P0_ k_)) : ∀ (P0_ : Nat → Prop) (u9000_ : Value) (l0 : List (S32)) (a1 : Int) (a2 : Int) (a3 : Int) (a4 : Int) (r : List (S32)) (w0 w : World) (hB : Below w0.heap.size w0 w) (ho0 : Kd.R k32 32 w w0.heap.size P0_ u9000_ l0) (h : api_Cmd_40.f (k + 1) l0 a1 a2 a3 a4 = some r) (c6 : (wrap64 (a2 - a1)) = 1),
    Calls Try.prog 40 #[u9000_, .int .i64 a1, .int .i64 a2, .int .i64 a3, .func (.func 26) #[] #[]] w fun e w' => e = .returned (.tuple #[]) ∧ Kd.R k32 32 w' w0.heap.size (fun k_ => (P0_ k_ ∨ w.heap.size ≤ k_)) u9000_ r ∧ Below w0.heap.size w0 w' ∧ Kept w w' (fun k_ => P0_ k_) := by
  intro P0_ u9000_ l0 a1 a2 a3 a4 r w0 w hB ho0 h c6
  simp only [api_Cmd_40.f] at h
  have hu32 := Try.underlying32
  have HO0 := Aside0.mk (show Kd.R k32 32 w w0.heap.size (fun k_ => (P0_ k_ ∨ w.heap.size ≤ k_)) u9000_ l0 from Kd.R_mono ho0 (fun k_ hk => (.inl hk)))
  have HK := Aside0.mk (Kept.refl w (fun k_ => P0_ k_))
  have HW0 := Aside0.mk hB.size
  have HB := Aside0.mk hB
  clear hB
  have H : (if (wrap64 (a2 - a1)) = 1 then (api_Cmd_40.l0 k l0 a1 a2 a3) else (if (wrap64 (a3 - a2)) = 1 then (api_Cmd_40.l2 k l0 a2 a1 a2) else (if a2 > (wrap64 ((IntKind.u64.wrap (wrap64 (a1 + a3))) / 2)) then (api_Cmd_40.j4 k l0 a1 a2 a3 a4 (wrap64 ((IntKind.u64.wrap (wrap64 (a1 + a3))) / 2)) (wrap64 ((wrap64 ((IntKind.u64.wrap (wrap64 (a1 + a3))) / 2)) + a2)) (wrap64 ((wrap64 ((wrap64 ((IntKind.u64.wrap (wrap64 (a1 + a3))) / 2)) + a2)) - a3)) (wrap64 ((IntKind.u64.wrap (wrap64 (a1 + a3))) / 2))) else (api_Cmd_40.j4 k l0 a1 a2 a3 a4 (wrap64 ((IntKind.u64.wrap (wrap64 (a1 + a3))) / 2)) (wrap64 ((wrap64 ((IntKind.u64.wrap (wrap64 (a1 + a3))) / 2)) + a2)) a1 a2)))) = some r := h
  clear h
  · rw [if_pos c6] at H
    have c6b0 : ((wrap64 (a2 - a1)) == 1) = true := beq_iff_eq.mpr c6
    have c6b1 : ((wrap64 (a2 - a1)) != 1) = false := bne_eq_false_iff_eq.mpr c6
    clear c6
    have H' := Aside0.mk H
    clear H
    go_enter Try.func40, Try.ntmps40
    go_wp2
    go_loopg [10, 11] k (fun kq v10 v11 w' => ∃ (x10_1 : Int) (x11_1 : Int), v10 = .int .i64 x10_1 ∧ v11 = .int .i64 x11_1 ∧ Aside0 (api_Cmd_40.l0 kq l0 a1 x10_1 x11_1 = some r) ∧ Aside0 (kq ≤ k) ∧ Aside0 (Kd.R k32 32 w' w0.heap.size (fun k_ => (P0_ k_ ∨ w.heap.size ≤ k_)) u9000_ l0) ∧ Aside0 (Kept w w' (fun k_ => P0_ k_)) ∧ Aside0 (Below w0.heap.size w0 w'))
    case atStart => exact ⟨(a2), (a3), (by first | rfl | (simp; done) | (simp [*]; done)), (by first | rfl | (simp; done) | (simp [*]; done)), H', ⟨Nat.le_refl _⟩, ⟨by (with_reducible repeat (first | apply Kd.R_alloc | apply Kd.R_drewN | apply Kd.R_drew)); exact HO0.out⟩, ⟨by repeat (first | (with_reducible first | exact HK.out | apply Kept.alloc | apply Kept.drewN | apply Kept.drew) | exact HK.out)⟩, ⟨by repeat (first | (with_reducible first | exact HB.out | apply below_alloc | apply pw_below_drewN | apply below_drew1) | exact HB.out)⟩⟩
    case round =>
      clear H'
      try clear p2
      try clear c4
      try clear c6
      try clear c6b0
      try clear c6b1
      try clear p6
      obtain ⟨x10_1, x11_1, rfl, rfl, HA, HK1, HO_0, HK, HB⟩ := hrel
      cases gk with
      | zero => exact absurd HA.out (by simp [api_Cmd_40.l0])
      | succ k1 =>
        have H := HA.out
        clear HA
        simp only [api_Cmd_40.l0] at H
        by_cases c7 : x10_1 < x11_1
        · as_aux_lemma =>
          rw [if_pos c7] at H
          have c7b0 : decide (x10_1 < x11_1) = true := decide_eq_true c7
          clear c7
          obtain ⟨ji8, hji8⟩ : ∃ j_ : Int, (wrap64 ((IntKind.u64.wrap (wrap64 (x10_1 + x11_1))) / 2)) = j_ := ⟨_, rfl⟩
          replace H : (if 0 ≤ (ji8) then (if (ji8) < (l0.length : Int) then (if 0 ≤ a1 then (if a1 < (l0.length : Int) then ((preds_byName.f ((rd_T32 l0 (ji8)).f0) ((rd_T32 l0 (ji8)).f1) ((rd_T32 l0 (ji8)).f2) ((rd_T32 l0 (ji8)).f3) ((rd_T32 l0 (ji8)).f4) ((rd_T32 l0 (ji8)).f5) ((rd_T32 l0 (ji8)).f6) ((rd_T32 l0 a1).f0) ((rd_T32 l0 a1).f1) ((rd_T32 l0 a1).f2) ((rd_T32 l0 a1).f3) ((rd_T32 l0 a1).f4) ((rd_T32 l0 a1).f5) ((rd_T32 l0 a1).f6)).bind fun t164 => (if t164 < 0 then (api_Cmd_40.l0 k1 l0 a1 (wrap64 ((ji8) + 1)) x11_1) else (api_Cmd_40.l0 k1 l0 a1 x10_1 ji8))) else (none)) else (none)) else (none)) else (none)) = some r := by first | (rw [hji8] at H; exact H) | (simp only [hji8] at H ⊢; exact H)
          have hji8w : (IntKind.i64.wrap ((IntKind.u64.wrap (wrap64 (x10_1 + x11_1))) / 2)) = ji8 := (i64_w _).trans hji8
          by_cases c9 : 0 ≤ (ji8)
          · as_aux_lemma =>
            rw [if_pos c9] at H
            have c9b0 : decide (0 ≤ (ji8)) = true := decide_eq_true c9
            clear c9
            by_cases c10 : (ji8) < (l0.length : Int)
            · as_aux_lemma =>
              rw [if_pos c10] at H
              have c10b0 : decide ((ji8) < (l0.length : Int)) = true := decide_eq_true c10
              clear c10
              by_cases c11 : 0 ≤ a1
              · as_aux_lemma =>
                rw [if_pos c11] at H
                have c11b0 : decide (0 ≤ a1) = true := decide_eq_true c11
                clear c11
                by_cases c12 : a1 < (l0.length : Int)
                · as_aux_lemma =>
                  rw [if_pos c12] at H
                  have c12b0 : decide (a1 < (l0.length : Int)) = true := decide_eq_true c12
                  clear c12
                  replace H := Option.bind_eq_some_iff.mp H
                  obtain ⟨t164, A130, H⟩ := H
                  replace H : (if t164 < 0 then (api_Cmd_40.l0 k1 l0 a1 (wrap64 ((ji8) + 1)) x11_1) else (api_Cmd_40.l0 k1 l0 a1 x10_1 ji8)) = some r := H
                  have A13 := Aside0.mk A130
                  clear A130
                  by_cases c14 : t164 < 0
                  · as_aux_lemma =>
                    rw [if_pos c14] at H
                    have c14b0 : decide (t164 < 0) = true := decide_eq_true c14
                    clear c14
                    have H' := Aside0.mk H
                    clear H
                    try go_wp2
                    have n0_ := Aside0.mk (Kd.R_drew HO_0.out)
                    have n1_ := Aside0.mk (Kept.drew HK.out)
                    have n2_ := Aside0.mk (below_drew1 HB.out)
                    clear HO_0
                    clear HK
                    clear HB
                    have HO_0 := n0_
                    have HK := n1_
                    have HB := n2_
                    clear n0_ n1_ n2_
                    obtain ⟨Ao16, co16, eo16⟩ := Kd.R_slice HO_0.out
                    (first | subst eo16 | (injection eo16 with f1_ f2_ f3_; have f4_ := f1_.symm; have f5_ := f3_.symm; clear f1_ f2_ f3_; subst f4_; subst f5_))
                    have p162 : 0 ≤ ((ji8) : Int) := of_decide_eq_true (by first | (with_reducible assumption) | assumption)
                    have q162 : (ji8) < (l0.length : Int) := of_decide_eq_true (by first | (with_reducible assumption) | assumption)
                    obtain ⟨ad162, e162, hx162_0, hx162_1, hx162_2, hx162_3, hx162_4, hx162_5, hx162_6⟩ := at_T32 (Kd.R_reads' HO_0.out).2.2 (ji8) p162 q162
                    cases e162
                    replace p162 := eq_true p162
                    replace q162 := eq_true q162
                    have p163 : 0 ≤ (a1 : Int) := of_decide_eq_true (by first | (with_reducible assumption) | assumption)
                    have q163 : a1 < (l0.length : Int) := of_decide_eq_true (by first | (with_reducible assumption) | assumption)
                    obtain ⟨ad163, e163, hx163_0, hx163_1, hx163_2, hx163_3, hx163_4, hx163_5, hx163_6⟩ := at_T32 (Kd.R_reads' HO_0.out).2.2 a1 p163 q163
                    obtain rfl : ad162 = ad163 := (by injection e163)
                    replace p163 := eq_true p163
                    replace q163 := eq_true q163
                    have mixed : Try.prog.follows .mixedOrders = true := by first | rfl | kernel_rfl
                    have aE : ∀ w, (isAgg 32).run Try.prog w = .ok true w := by intro w_; first | (go_simp; done) | (simp [isAgg, hu32]; done)
                    have zE0 : ∀ w, (Go.sizeOf 32).run Try.prog w = .ok k32.sz w := by intro w_; first | (go_simp; rfl) | (simp [Go.sizeOf, hu32]; rfl)
                    obtain ⟨k7_, hk7_⟩ : ∃ k, k = k32.sz := ⟨_, rfl⟩
                    have zE : ∀ w, (Go.sizeOf 32).run Try.prog w = .ok k7_ w := by rw [hk7_]; exact zE0
                    clear zE0 hu32
                    obtain ⟨c0_, ha0_, la0_⟩ := Kd.C_loads (Kd.R_reads' HO_0.out).2.2 z32 (ji8) (of_eq_true p162) (of_eq_true q162)
                    replace ha0_ : k32.K _ (rd_T32 l0 (ji8)) c0_ := ha0_
                    obtain rfl := k32_open ha0_
                    replace la0_ := la0_ Try.prog
                    rw [← hk7_] at la0_
                    obtain ⟨c1_, ha1_, la1_⟩ := Kd.C_loads (Kd.R_reads' HO_0.out).2.2 z32 a1 (of_eq_true p163) (of_eq_true q163)
                    replace ha1_ : k32.K _ (rd_T32 l0 a1) c1_ := ha1_
                    obtain rfl := k32_open ha1_
                    replace la1_ := la1_ Try.prog
                    rw [← hk7_] at la1_
                    have HCG_ : ∀ p_ : Past wr.drew, Calls Try.prog 26 _ p_.now (fun e_ w_ => e_ = .returned _ ∧ ∃ q_ : Past wr.drew, w_ = q_.now) := fun p_ => (preds_byName.calls ((rd_T32 l0 (ji8)).f0) ((rd_T32 l0 (ji8)).f1) ((rd_T32 l0 (ji8)).f2) ((rd_T32 l0 (ji8)).f3) ((rd_T32 l0 (ji8)).f4) ((rd_T32 l0 (ji8)).f5) ((rd_T32 l0 (ji8)).f6) ((rd_T32 l0 a1).f0) ((rd_T32 l0 a1).f1) ((rd_T32 l0 a1).f2) ((rd_T32 l0 a1).f3) ((rd_T32 l0 a1).f4) ((rd_T32 l0 a1).f5) ((rd_T32 l0 a1).f6) t164 p_.now A13.out).mono (fun e_ w_ h_ => ⟨h_.1, ⟨w_, below_step p_.le h_.2⟩, rfl⟩)
                    have eg_ : ∀ args w, (callFunc 26 args).run Try.prog w = .ok (.enter 26 args) w := fun args w => enters_ Try.func26 (by kernel_rfl) rfl args w
                    clear hk7_
                    refine wp_region_past (by assumption) (by kernel_rfl) ?_
                    repeat (quiet_step (first | exact HCG_ _))
                    refine wpQuiet_nil ?_
                    intro w17 hwq_
                    have hle_ : Below wr.drew.heap.size wr.drew w17 := by obtain ⟨p_, rfl⟩ := hwq_; exact p_.le
                    have n0_ := Aside0.mk (Kd.R_below HO_0.out hle_)
                    have n1_ := Aside0.mk (Kept.below HK.out hle_)
                    have n2_ := Aside0.mk (below_step HB.out hle_)
                    clear HO_0 HK HB hwq_ hle_ HCG_ eg_ aE zE mixed
                    clear la0_ ha0_ la1_ ha1_
                    have HO_0 := n0_
                    have HK := n1_
                    have HB := n2_
                    clear n0_ n1_ n2_
                    have hu32 := Try.underlying32
                    try go_wp2
                    go_roundg k1
                    case measure => have := HK1.out; omega
                    case rel => exact ⟨(wrap64 ((ji8) + 1)), (x11_1), (by first | rfl | (simp; done) | (simp only [← hji8] <;> (first | rfl | simp)) | (simp [*]; done)), (by first | rfl | (simp; done) | (simp [*]; done)), H', ⟨by have := HK1.out; omega⟩, ⟨by (with_reducible repeat (first | apply Kd.R_alloc | apply Kd.R_drewN | apply Kd.R_drew)); exact HO_0.out⟩, ⟨by repeat (first | (with_reducible first | exact HK.out | apply Kept.alloc | apply Kept.drewN | apply Kept.drew) | exact HK.out)⟩, ⟨by repeat (first | (with_reducible first | exact HB.out | apply below_alloc | apply pw_below_drewN | apply below_drew1) | exact HB.out)⟩⟩
                  · as_aux_lemma =>
                    rw [if_neg c14] at H
                    have c14b0 : decide (t164 < 0) = false := decide_eq_false c14
                    clear c14
                    have H' := Aside0.mk H
                    clear H
                    try go_wp2
                    have n0_ := Aside0.mk (Kd.R_drew HO_0.out)
                    have n1_ := Aside0.mk (Kept.drew HK.out)
                    have n2_ := Aside0.mk (below_drew1 HB.out)
                    clear HO_0
                    clear HK
                    clear HB
                    have HO_0 := n0_
                    have HK := n1_
                    have HB := n2_
                    clear n0_ n1_ n2_
                    obtain ⟨Ao19, co19, eo19⟩ := Kd.R_slice HO_0.out
                    (first | subst eo19 | (injection eo19 with f1_ f2_ f3_; have f4_ := f1_.symm; have f5_ := f3_.symm; clear f1_ f2_ f3_; subst f4_; subst f5_))
                    have p162 : 0 ≤ ((ji8) : Int) := of_decide_eq_true (by first | (with_reducible assumption) | assumption)
                    have q162 : (ji8) < (l0.length : Int) := of_decide_eq_true (by first | (with_reducible assumption) | assumption)
                    obtain ⟨ad162, e162, hx162_0, hx162_1, hx162_2, hx162_3, hx162_4, hx162_5, hx162_6⟩ := at_T32 (Kd.R_reads' HO_0.out).2.2 (ji8) p162 q162
                    cases e162
                    replace p162 := eq_true p162
                    replace q162 := eq_true q162
                    have p163 : 0 ≤ (a1 : Int) := of_decide_eq_true (by first | (with_reducible assumption) | assumption)
                    have q163 : a1 < (l0.length : Int) := of_decide_eq_true (by first | (with_reducible assumption) | assumption)
                    obtain ⟨ad163, e163, hx163_0, hx163_1, hx163_2, hx163_3, hx163_4, hx163_5, hx163_6⟩ := at_T32 (Kd.R_reads' HO_0.out).2.2 a1 p163 q163
                    obtain rfl : ad162 = ad163 := (by injection e163)
                    replace p163 := eq_true p163
                    replace q163 := eq_true q163
                    have mixed : Try.prog.follows .mixedOrders = true := by first | rfl | kernel_rfl
                    have aE : ∀ w, (isAgg 32).run Try.prog w = .ok true w := by intro w_; first | (go_simp; done) | (simp [isAgg, hu32]; done)
                    have zE0 : ∀ w, (Go.sizeOf 32).run Try.prog w = .ok k32.sz w := by intro w_; first | (go_simp; rfl) | (simp [Go.sizeOf, hu32]; rfl)
                    obtain ⟨k7_, hk7_⟩ : ∃ k, k = k32.sz := ⟨_, rfl⟩
                    have zE : ∀ w, (Go.sizeOf 32).run Try.prog w = .ok k7_ w := by rw [hk7_]; exact zE0
                    clear zE0 hu32
                    obtain ⟨c0_, ha0_, la0_⟩ := Kd.C_loads (Kd.R_reads' HO_0.out).2.2 z32 (ji8) (of_eq_true p162) (of_eq_true q162)
                    replace ha0_ : k32.K _ (rd_T32 l0 (ji8)) c0_ := ha0_
                    obtain rfl := k32_open ha0_
                    replace la0_ := la0_ Try.prog
                    rw [← hk7_] at la0_
                    obtain ⟨c1_, ha1_, la1_⟩ := Kd.C_loads (Kd.R_reads' HO_0.out).2.2 z32 a1 (of_eq_true p163) (of_eq_true q163)
                    replace ha1_ : k32.K _ (rd_T32 l0 a1) c1_ := ha1_
                    obtain rfl := k32_open ha1_
                    replace la1_ := la1_ Try.prog
                    rw [← hk7_] at la1_
                    have HCG_ : ∀ p_ : Past wr.drew, Calls Try.prog 26 _ p_.now (fun e_ w_ => e_ = .returned _ ∧ ∃ q_ : Past wr.drew, w_ = q_.now) := fun p_ => (preds_byName.calls ((rd_T32 l0 (ji8)).f0) ((rd_T32 l0 (ji8)).f1) ((rd_T32 l0 (ji8)).f2) ((rd_T32 l0 (ji8)).f3) ((rd_T32 l0 (ji8)).f4) ((rd_T32 l0 (ji8)).f5) ((rd_T32 l0 (ji8)).f6) ((rd_T32 l0 a1).f0) ((rd_T32 l0 a1).f1) ((rd_T32 l0 a1).f2) ((rd_T32 l0 a1).f3) ((rd_T32 l0 a1).f4) ((rd_T32 l0 a1).f5) ((rd_T32 l0 a1).f6) t164 p_.now A13.out).mono (fun e_ w_ h_ => ⟨h_.1, ⟨w_, below_step p_.le h_.2⟩, rfl⟩)
                    have eg_ : ∀ args w, (callFunc 26 args).run Try.prog w = .ok (.enter 26 args) w := fun args w => enters_ Try.func26 (by kernel_rfl) rfl args w
                    clear hk7_
                    refine wp_region_past (by assumption) (by kernel_rfl) ?_
                    repeat (quiet_step (first | exact HCG_ _))
                    refine wpQuiet_nil ?_
                    intro w20 hwq_
                    have hle_ : Below wr.drew.heap.size wr.drew w20 := by obtain ⟨p_, rfl⟩ := hwq_; exact p_.le
                    have n0_ := Aside0.mk (Kd.R_below HO_0.out hle_)
                    have n1_ := Aside0.mk (Kept.below HK.out hle_)
                    have n2_ := Aside0.mk (below_step HB.out hle_)
                    clear HO_0 HK HB hwq_ hle_ HCG_ eg_ aE zE mixed
                    clear la0_ ha0_ la1_ ha1_
                    have HO_0 := n0_
                    have HK := n1_
                    have HB := n2_
                    clear n0_ n1_ n2_
                    have hu32 := Try.underlying32
                    try go_wp2
                    go_roundg k1
                    case measure => have := HK1.out; omega
                    case rel => exact ⟨(x10_1), (ji8), (by first | rfl | (simp; done) | (simp [*]; done)), (by first | rfl | (simp; done) | (simp only [← hji8] <;> (first | rfl | simp)) | (simp [*]; done)), H', ⟨by have := HK1.out; omega⟩, ⟨by (with_reducible repeat (first | apply Kd.R_alloc | apply Kd.R_drewN | apply Kd.R_drew)); exact HO_0.out⟩, ⟨by repeat (first | (with_reducible first | exact HK.out | apply Kept.alloc | apply Kept.drewN | apply Kept.drew) | exact HK.out)⟩, ⟨by repeat (first | (with_reducible first | exact HB.out | apply below_alloc | apply pw_below_drewN | apply below_drew1) | exact HB.out)⟩⟩
                · rw [if_neg c12] at H
                  exact absurd H (by simp)
              · rw [if_neg c11] at H
                exact absurd H (by simp)
            · rw [if_neg c10] at H
              exact absurd H (by simp)
          · rw [if_neg c9] at H
            exact absurd H (by simp)
        · as_aux_lemma =>
          rw [if_neg c7] at H
          have c7b0 : decide (x10_1 < x11_1) = false := decide_eq_false c7
          clear c7
          have H' := Aside0.mk H
          clear H
          go_wp2
          go_loopg [13] k1 (fun kq v13 w' => ∃ (x0_2 : List (S32)) (x13_2 : Int), v13 = .int .i64 x13_2 ∧ Aside0 (api_Cmd_40.l1 kq x0_2 x10_1 x13_2 = some r) ∧ Aside0 (kq ≤ k1) ∧ Aside0 (Kd.R k32 32 w' w0.heap.size (fun k_ => (P0_ k_ ∨ w.heap.size ≤ k_)) u9000_ x0_2) ∧ Aside0 (Kept w w' (fun k_ => P0_ k_)) ∧ Aside0 (Below w0.heap.size w0 w'))
          case atStart => exact ⟨(l0), (a1), (by first | rfl | (simp; done) | (simp [*]; done)), H', ⟨Nat.le_refl _⟩, ⟨by (with_reducible repeat (first | apply Kd.R_alloc | apply Kd.R_drewN | apply Kd.R_drew)); exact HO_0.out⟩, ⟨by repeat (first | (with_reducible first | exact HK.out | apply Kept.alloc | apply Kept.drewN | apply Kept.drew) | exact HK.out)⟩, ⟨by repeat (first | (with_reducible first | exact HB.out | apply below_alloc | apply pw_below_drewN | apply below_drew1) | exact HB.out)⟩⟩
          case round =>
            clear H'
            try clear c1
            try clear p1
            try clear q1
            try clear hx1
            try clear c2
            try clear p2
            try clear c4
            try clear c6
            try clear c6b0
            try clear c6b1
            try clear p6
            try clear c7
            try clear c7b0
            try clear c9
            try clear c9b0
            try clear c10
            try clear c10b0
            try clear c11
            try clear c11b0
            try clear c12
            try clear c12b0
            try clear c14
            try clear c14b0
            try clear p16
            try clear q16
            try clear hx16
            try clear hx162_0
            try clear hx162_1
            try clear hx162_2
            try clear hx162_3
            try clear hx162_4
            try clear hx162_5
            try clear hx162_6
            try clear hx163_0
            try clear hx163_1
            try clear hx163_2
            try clear hx163_3
            try clear hx163_4
            try clear hx163_5
            try clear hx163_6
            try clear p162
            try clear p163
            try clear p2
            try clear p6
            try clear q162
            try clear q163
            obtain ⟨x0_2, x13_2, rfl, HA, HK2, HO_0, HK, HB⟩ := hrel
            cases gk with
            | zero => exact absurd HA.out (by simp [api_Cmd_40.l1])
            | succ k2 =>
              have H := HA.out
              clear HA
              simp only [api_Cmd_40.l1] at H
              by_cases c21 : x13_2 < (wrap64 (x10_1 - 1))
              · as_aux_lemma =>
                rw [if_pos c21] at H
                have c21b0 : decide (x13_2 < (wrap64 (x10_1 - 1))) = true := decide_eq_true c21
                clear c21
                obtain ⟨ji22, hji22⟩ : ∃ j_ : Int, (wrap64 (x13_2 + 1)) = j_ := ⟨_, rfl⟩
                replace H : (if 0 ≤ (ji22) then (if (ji22) < (x0_2.length : Int) then (if 0 ≤ x13_2 then (if x13_2 < (x0_2.length : Int) then (api_Cmd_40.l1 k2 ((x0_2.set (x13_2 : Int).toNat (⟨(rd_T32 x0_2 (ji22)).f0, (rd_T32 x0_2 (ji22)).f1, (rd_T32 x0_2 (ji22)).f2, (rd_T32 x0_2 (ji22)).f3, (rd_T32 x0_2 (ji22)).f4, (rd_T32 x0_2 (ji22)).f5, (rd_T32 x0_2 (ji22)).f6⟩ : S32)).set ((ji22) : Int).toNat (⟨(rd_T32 x0_2 x13_2).f0, (rd_T32 x0_2 x13_2).f1, (rd_T32 x0_2 x13_2).f2, (rd_T32 x0_2 x13_2).f3, (rd_T32 x0_2 x13_2).f4, (rd_T32 x0_2 x13_2).f5, (rd_T32 x0_2 x13_2).f6⟩ : S32)) x10_1 ji22) else (none)) else (none)) else (none)) else (none)) = some r := by first | (rw [hji22] at H; exact H) | (simp only [hji22] at H ⊢; exact H)
                have hji22w : (IntKind.i64.wrap (x13_2 + 1)) = ji22 := (i64_w _).trans hji22
                by_cases c23 : 0 ≤ (ji22)
                · as_aux_lemma =>
                  rw [if_pos c23] at H
                  have c23b0 : decide (0 ≤ (ji22)) = true := decide_eq_true c23
                  clear c23
                  by_cases c24 : (ji22) < (x0_2.length : Int)
                  · as_aux_lemma =>
                    rw [if_pos c24] at H
                    have c24b0 : decide ((ji22) < (x0_2.length : Int)) = true := decide_eq_true c24
                    clear c24
                    by_cases c25 : 0 ≤ x13_2
                    · as_aux_lemma =>
                      rw [if_pos c25] at H
                      have c25b0 : decide (0 ≤ x13_2) = true := decide_eq_true c25
                      clear c25
                      by_cases c26 : x13_2 < (x0_2.length : Int)
                      · as_aux_lemma =>
                        rw [if_pos c26] at H
                        have c26b0 : decide (x13_2 < (x0_2.length : Int)) = true := decide_eq_true c26
                        clear c26
                        obtain ⟨y167, hy167⟩ : ∃ y_ : List (S32), y_ = (x0_2.set (x13_2 : Int).toNat (⟨(rd_T32 x0_2 (ji22)).f0, (rd_T32 x0_2 (ji22)).f1, (rd_T32 x0_2 (ji22)).f2, (rd_T32 x0_2 (ji22)).f3, (rd_T32 x0_2 (ji22)).f4, (rd_T32 x0_2 (ji22)).f5, (rd_T32 x0_2 (ji22)).f6⟩ : S32)) := ⟨_, rfl⟩
                        replace H : (api_Cmd_40.l1 k2 (y167.set ((ji22) : Int).toNat (⟨(rd_T32 x0_2 x13_2).f0, (rd_T32 x0_2 x13_2).f1, (rd_T32 x0_2 x13_2).f2, (rd_T32 x0_2 x13_2).f3, (rd_T32 x0_2 x13_2).f4, (rd_T32 x0_2 x13_2).f5, (rd_T32 x0_2 x13_2).f6⟩ : S32)) x10_1 ji22) = some r := by first | (rw [hy167]; with_reducible exact H) | (have H2_ := (Option.bind_some _ _).symm.trans H; rw [hy167]; with_reducible exact H2_) | (have H2_ := (Option.bind_some _ _).symm.trans H; with_reducible exact H2_) | with_reducible exact H | (rw [hy167]; exact H) | exact H
                        have Ny167 := Aside0.mk hy167
                        clear hy167
                        obtain ⟨y168, hy168⟩ : ∃ y_ : List (S32), y_ = (y167.set ((ji22) : Int).toNat (⟨(rd_T32 x0_2 x13_2).f0, (rd_T32 x0_2 x13_2).f1, (rd_T32 x0_2 x13_2).f2, (rd_T32 x0_2 x13_2).f3, (rd_T32 x0_2 x13_2).f4, (rd_T32 x0_2 x13_2).f5, (rd_T32 x0_2 x13_2).f6⟩ : S32)) := ⟨_, rfl⟩
                        replace H : (api_Cmd_40.l1 k2 y168 x10_1 ji22) = some r := by first | (rw [hy168]; with_reducible exact H) | (have H2_ := (Option.bind_some _ _).symm.trans H; rw [hy168]; with_reducible exact H2_) | (have H2_ := (Option.bind_some _ _).symm.trans H; with_reducible exact H2_) | with_reducible exact H | (rw [hy168]; exact H) | exact H
                        have Ny168 := Aside0.mk hy168
                        clear hy168
                        have H' := Aside0.mk H
                        clear H
                        try go_wp2
                        have n0_ := Aside0.mk (Kd.R_drew HO_0.out)
                        have n1_ := Aside0.mk (Kept.drew HK.out)
                        have n2_ := Aside0.mk (below_drew1 HB.out)
                        clear HO_0
                        clear HK
                        clear HB
                        have HO_0 := n0_
                        have HK := n1_
                        have HB := n2_
                        clear n0_ n1_ n2_
                        obtain ⟨Ao30, co30, eo30⟩ := Kd.R_slice HO_0.out
                        (first | subst eo30 | (injection eo30 with f1_ f2_ f3_; have f4_ := f1_.symm; have f5_ := f3_.symm; clear f1_ f2_ f3_; subst f4_; subst f5_))
                        have mixed : Try.prog.follows .mixedOrders = true := by first | rfl | kernel_rfl
                        have pa_ : 0 ≤ (x13_2 : Int) := of_decide_eq_true (by first | (with_reducible assumption) | assumption)
                        have qa_ : (x13_2 : Int) < (x0_2.length : Int) := of_decide_eq_true (by first | (with_reducible assumption) | assumption)
                        have pb_ : 0 ≤ ((ji22) : Int) := of_decide_eq_true (by first | (with_reducible assumption) | assumption)
                        have qb_ : ((ji22) : Int) < (x0_2.length : Int) := of_decide_eq_true (by first | (with_reducible assumption) | assumption)
                        obtain ⟨go27, co27, eo27, gb27, gl27, cl27, HG27⟩ := Kd.R_form HO_0.out (by omega)
                        (first | cases eo27 | (injection eo27 with ea_ en_ ec_; (first | subst ea_ | (injection ea_ with ea_; subst ea_)); subst ec_; clear en_))
                        have GB27 := Aside0.mk gb27
                        have HMgo27 := Aside0.mk (show (P0_ go27 ∨ w.heap.size ≤ go27) from (HO_0.out.1 _ rfl))
                        clear gb27 gl27 HG27
                        have aE : ∀ w, (isAgg 32).run Try.prog w = .ok true w := by intro w_; first | (go_simp; done) | (simp [isAgg, hu32]; done)
                        have zE0 : ∀ w, (Go.sizeOf 32).run Try.prog w = .ok k32.sz w := by intro w_; first | (go_simp; rfl) | (simp [Go.sizeOf, hu32]; rfl)
                        obtain ⟨k7_, hk7_⟩ : ∃ k, k = k32.sz := ⟨_, rfl⟩
                        have zE : ∀ w, (Go.sizeOf 32).run Try.prog w = .ok k7_ w := by rw [hk7_]; exact zE0
                        clear zE0 hu32
                        obtain ⟨ca_, cb_, la_, lb_, ld1_, ld2_, st1_, st2_, HR_, HG_⟩ := Kd.R_swap HO_0.out z32 x13_2 (ji22) pa_ qa_ pb_ qb_
                        rw [← hk7_] at la_ lb_ HR_ HG_
                        replace ld1_ : Sem.run Try.prog (loadCellsFrom ⟨go27, (x13_2 : Int).toNat * k7_, none⟩ 0 k7_ #[]) wr.drew = .ok ca_.toArray wr.drew := by rw [hk7_]; exact ld1_ _
                        replace ld2_ : Sem.run Try.prog (loadCellsFrom ⟨go27, ((ji22) : Int).toNat * k7_, none⟩ 0 k7_ #[]) wr.drew = .ok cb_.toArray wr.drew := by rw [hk7_]; exact ld2_ _
                        replace st1_ : Sem.run Try.prog (storeCells ⟨go27, (x13_2 : Int).toNat * k7_, none⟩ cb_ 0) wr.drew = .ok () (wr.drew.setCells go27 ((x13_2 : Int).toNat * k7_) cb_) := by rw [hk7_]; exact st1_ _
                        replace st2_ : Sem.run Try.prog (storeCells ⟨go27, ((ji22) : Int).toNat * k7_, none⟩ ca_ 0) (wr.drew.setCells go27 ((x13_2 : Int).toNat * k7_) cb_) = .ok () ((wr.drew.setCells go27 ((x13_2 : Int).toNat * k7_) cb_).setCells go27 (((ji22) : Int).toNat * k7_) ca_) := by rw [hk7_]; exact st2_ _
                        have ey_ : y168 = ((x0_2.set (x13_2 : Int).toNat (x0_2.getD ((ji22) : Int).toNat z32)).set ((ji22) : Int).toNat (x0_2.getD (x13_2 : Int).toNat z32)) := by rw [Ny168.out, Ny167.out]; rfl
                        rw [← ey_] at HR_
                        have HQ32 := Aside0.mk HR_
                        have n1_ := Aside0.mk (Kept.of_grown HG_ HK.out (fun k_ he_ => by cases he_; exact HMgo27.out))
                        have n2_ := Aside0.mk (HB.out.grown HG_ (Nat.le_trans (Nat.le_refl _) HB.out.size) (fun k_ he_ => by cases he_; exact GB27.out))
                        clear HK HB HO_0
                        have HK := n1_
                        have HB := n2_
                        clear n1_ n2_ HR_ HG_ hk7_ ey_
                        replace pa_ := eq_true pa_
                        replace qa_ := eq_true qa_
                        replace pb_ := eq_true pb_
                        replace qb_ := eq_true qb_
                        go_big_region_o
                        all_goals go_wp2
                        have hu32 := Try.underlying32
                        try go_wp2
                        go_roundg k2
                        case measure => have := HK1.out; have := HK2.out; omega
                        case rel => exact ⟨(y168), (ji22), (by first | rfl | (simp; done) | (simp only [← hji22] <;> (first | rfl | simp)) | (simp [*]; done)), H', ⟨by have := HK1.out; have := HK2.out; omega⟩, ⟨by (with_reducible repeat (first | apply Kd.R_alloc | apply Kd.R_drewN | apply Kd.R_drew)); exact HQ32.out⟩, ⟨by repeat (first | (with_reducible first | exact HK.out | apply Kept.alloc | apply Kept.drewN | apply Kept.drew | refine Kept.setCell ?_ HMgo27.out _ | refine Kept.setCell ?_ HMgo27.out _ | refine Kept.setCell ?_ HMgo27.out _ | refine Kept.setCell ?_ HMgo27.out _ | refine Kept.setCell ?_ HMgo27.out _ | refine Kept.setCell ?_ HMgo27.out _ | refine Kept.setCell ?_ HMgo27.out _ | refine Kept.setCell ?_ HMgo27.out _ | refine Kept.setCell ?_ HMgo27.out _ | refine Kept.setCell ?_ HMgo27.out _ | refine Kept.setCell ?_ HMgo27.out _ | refine Kept.setCell ?_ HMgo27.out _ | refine Kept.setCell ?_ HMgo27.out _ | refine Kept.setCell ?_ HMgo27.out _) | exact HK.out)⟩, ⟨by repeat (first | (with_reducible first | exact HB.out | apply below_alloc | apply pw_below_drewN | apply below_drew1 | refine below_set ?_ GB27.out | refine below_set ?_ GB27.out | refine below_set ?_ GB27.out | refine below_set ?_ GB27.out | refine below_set ?_ GB27.out | refine below_set ?_ GB27.out | refine below_set ?_ GB27.out | refine below_set ?_ GB27.out | refine below_set ?_ GB27.out | refine below_set ?_ GB27.out | refine below_set ?_ GB27.out | refine below_set ?_ GB27.out | refine below_set ?_ GB27.out | refine below_set ?_ GB27.out) | exact HB.out)⟩⟩
                      · rw [if_neg c26] at H
                        exact absurd H (by simp)
                    · rw [if_neg c25] at H
                      exact absurd H (by simp)
                  · rw [if_neg c24] at H
                    exact absurd H (by simp)
                · rw [if_neg c23] at H
                  exact absurd H (by simp)
              · rw [if_neg c21] at H
                have c21b0 : decide (x13_2 < (wrap64 (x10_1 - 1))) = false := decide_eq_false c21
                clear c21
                obtain rfl := Option.some.inj H
                go_wp2
                first | go_end0 | ((try simp only [Exit.inBlock, Exit.then]); refine bodyPost_ret (results_none rfl _ _ _) rfl ?_)
                exact ⟨by first | rfl | (simp [errW_none, errW_some] <;> rfl) | (simp [*, errW_none, errW_some] <;> rfl), by (with_reducible repeat (first | apply Kd.R_alloc | apply Kd.R_drewN | apply Kd.R_drew)); exact HO_0.out, by repeat (first | (with_reducible first | exact HB.out | apply below_alloc | apply pw_below_drewN | apply below_drew1) | exact HB.out), by repeat (first | (with_reducible first | exact HK.out | apply Kept.alloc | apply Kept.drewN | apply Kept.drew) | exact HK.out)⟩
set_option maxHeartbeats 8000000 in
set_option maxRecDepth 100000 in
theorem api_Cmd_40.calls_b (k : Nat) (ih : ∀ m_ : Nat, m_ < k + 1 → ∀ (P0_ : Nat → Prop) (u9000_ : Value) (l0 : List (S32)) (a1 : Int) (a2 : Int) (a3 : Int) (a4 : Int) (r : List (S32)) (w0 w : World) (hB : Below w0.heap.size w0 w) (ho0 : Kd.R k32 32 w w0.heap.size P0_ u9000_ l0) (h : api_Cmd_40.f m_ l0 a1 a2 a3 a4 = some r),
    Calls Try.prog 40 #[u9000_, .int .i64 a1, .int .i64 a2, .int .i64 a3, .func (.func 26) #[] #[]] w fun e w' => e = .returned (.tuple #[]) ∧ Kd.R k32 32 w' w0.heap.size (fun k_ => (P0_ k_ ∨ w.heap.size ≤ k_)) u9000_ r ∧ Below w0.heap.size w0 w' ∧ Kept w w' (fun k_ => P0_ k_)) : ∀ (P0_ : Nat → Prop) (u9000_ : Value) (l0 : List (S32)) (a1 : Int) (a2 : Int) (a3 : Int) (a4 : Int) (r : List (S32)) (w0 w : World) (hB : Below w0.heap.size w0 w) (ho0 : Kd.R k32 32 w w0.heap.size P0_ u9000_ l0) (h : api_Cmd_40.f (k + 1) l0 a1 a2 a3 a4 = some r) (c6 : ¬ ((wrap64 (a2 - a1)) = 1)) (c33 : (wrap64 (a3 - a2)) = 1),
    Calls Try.prog 40 #[u9000_, .int .i64 a1, .int .i64 a2, .int .i64 a3, .func (.func 26) #[] #[]] w fun e w' => e = .returned (.tuple #[]) ∧ Kd.R k32 32 w' w0.heap.size (fun k_ => (P0_ k_ ∨ w.heap.size ≤ k_)) u9000_ r ∧ Below w0.heap.size w0 w' ∧ Kept w w' (fun k_ => P0_ k_) := by
  intro P0_ u9000_ l0 a1 a2 a3 a4 r w0 w hB ho0 h c6 c33
  simp only [api_Cmd_40.f] at h
  have hu32 := Try.underlying32
  have HO0 := Aside0.mk (show Kd.R k32 32 w w0.heap.size (fun k_ => (P0_ k_ ∨ w.heap.size ≤ k_)) u9000_ l0 from Kd.R_mono ho0 (fun k_ hk => (.inl hk)))
  have HK := Aside0.mk (Kept.refl w (fun k_ => P0_ k_))
  have HW0 := Aside0.mk hB.size
  have HB := Aside0.mk hB
  clear hB
  have H : (if (wrap64 (a2 - a1)) = 1 then (api_Cmd_40.l0 k l0 a1 a2 a3) else (if (wrap64 (a3 - a2)) = 1 then (api_Cmd_40.l2 k l0 a2 a1 a2) else (if a2 > (wrap64 ((IntKind.u64.wrap (wrap64 (a1 + a3))) / 2)) then (api_Cmd_40.j4 k l0 a1 a2 a3 a4 (wrap64 ((IntKind.u64.wrap (wrap64 (a1 + a3))) / 2)) (wrap64 ((wrap64 ((IntKind.u64.wrap (wrap64 (a1 + a3))) / 2)) + a2)) (wrap64 ((wrap64 ((wrap64 ((IntKind.u64.wrap (wrap64 (a1 + a3))) / 2)) + a2)) - a3)) (wrap64 ((IntKind.u64.wrap (wrap64 (a1 + a3))) / 2))) else (api_Cmd_40.j4 k l0 a1 a2 a3 a4 (wrap64 ((IntKind.u64.wrap (wrap64 (a1 + a3))) / 2)) (wrap64 ((wrap64 ((IntKind.u64.wrap (wrap64 (a1 + a3))) / 2)) + a2)) a1 a2)))) = some r := h
  clear h
  · rw [if_neg c6] at H
    have c6b0 : ((wrap64 (a2 - a1)) == 1) = false := beq_eq_false_iff_ne.mpr c6
    have c6b1 : ((wrap64 (a2 - a1)) != 1) = true := bne_iff_ne.mpr c6
    · as_aux_lemma =>
      rw [if_pos c33] at H
      have c33b0 : ((wrap64 (a3 - a2)) == 1) = true := beq_iff_eq.mpr c33
      have c33b1 : ((wrap64 (a3 - a2)) != 1) = false := bne_eq_false_iff_eq.mpr c33
      clear c33
      have H' := Aside0.mk H
      clear H
      go_enter Try.func40, Try.ntmps40
      go_wp2
      go_loopg [14, 15] k (fun kq v14 v15 w' => ∃ (x14_1 : Int) (x15_1 : Int), v14 = .int .i64 x14_1 ∧ v15 = .int .i64 x15_1 ∧ Aside0 (api_Cmd_40.l2 kq l0 a2 x14_1 x15_1 = some r) ∧ Aside0 (kq ≤ k) ∧ Aside0 (Kd.R k32 32 w' w0.heap.size (fun k_ => (P0_ k_ ∨ w.heap.size ≤ k_)) u9000_ l0) ∧ Aside0 (Kept w w' (fun k_ => P0_ k_)) ∧ Aside0 (Below w0.heap.size w0 w'))
      case atStart => exact ⟨(a1), (a2), (by first | rfl | (simp; done) | (simp [*]; done)), (by first | rfl | (simp; done) | (simp [*]; done)), H', ⟨Nat.le_refl _⟩, ⟨by (with_reducible repeat (first | apply Kd.R_alloc | apply Kd.R_drewN | apply Kd.R_drew)); exact HO0.out⟩, ⟨by repeat (first | (with_reducible first | exact HK.out | apply Kept.alloc | apply Kept.drewN | apply Kept.drew) | exact HK.out)⟩, ⟨by repeat (first | (with_reducible first | exact HB.out | apply below_alloc | apply pw_below_drewN | apply below_drew1) | exact HB.out)⟩⟩
      case round =>
        clear H'
        try clear c1
        try clear p1
        try clear q1
        try clear hx1
        try clear c2
        try clear p2
        try clear q2
        try clear hx2
        try clear c3
        try clear c4
        try clear c6
        try clear c6b0
        try clear c6b1
        try clear p6
        try clear c7
        try clear c7b0
        try clear c9
        try clear c9b0
        try clear c10
        try clear c10b0
        try clear c11
        try clear c11b0
        try clear c12
        try clear c12b0
        try clear c14
        try clear c14b0
        try clear p16
        try clear q16
        try clear hx16
        try clear c21
        try clear c21b0
        try clear c23
        try clear c23b0
        try clear c24
        try clear c24b0
        try clear c25
        try clear c25b0
        try clear c26
        try clear c26b0
        try clear c27
        try clear p27
        try clear q27
        try clear hx27
        try clear hf27
        try clear c28
        try clear p28
        try clear q28
        try clear hx28
        try clear hf28
        try clear c31
        try clear c32
        try clear c33
        try clear c33b0
        try clear c33b1
        try clear hx162_0
        try clear hx162_1
        try clear hx162_2
        try clear hx162_3
        try clear hx162_4
        try clear hx162_5
        try clear hx162_6
        try clear hx163_0
        try clear hx163_1
        try clear hx163_2
        try clear hx163_3
        try clear hx163_4
        try clear hx163_5
        try clear hx163_6
        try clear hx165_0
        try clear hx165_1
        try clear hx165_2
        try clear hx165_3
        try clear hx165_4
        try clear hx165_5
        try clear hx165_6
        try clear hx166_0
        try clear hx166_1
        try clear hx166_2
        try clear hx166_3
        try clear hx166_4
        try clear hx166_5
        try clear hx166_6
        try clear hx27_0
        try clear hx27_1
        try clear hx27_2
        try clear hx27_3
        try clear hx27_4
        try clear hx27_5
        try clear hx27_6
        try clear hx28_0
        try clear hx28_1
        try clear hx28_2
        try clear hx28_3
        try clear hx28_4
        try clear hx28_5
        try clear hx28_6
        try clear p1
        try clear p16
        try clear p162
        try clear p163
        try clear p165
        try clear p166
        try clear p2
        try clear p27
        try clear p28
        try clear p6
        try clear q1
        try clear q16
        try clear q162
        try clear q163
        try clear q165
        try clear q166
        try clear q27
        try clear q28
        obtain ⟨x14_1, x15_1, rfl, rfl, HA, HK1, HO_0, HK, HB⟩ := hrel
        cases gk with
        | zero => exact absurd HA.out (by simp [api_Cmd_40.l2])
        | succ k1 =>
          have H := HA.out
          clear HA
          simp only [api_Cmd_40.l2] at H
          by_cases c34 : x14_1 < x15_1
          · as_aux_lemma =>
            rw [if_pos c34] at H
            have c34b0 : decide (x14_1 < x15_1) = true := decide_eq_true c34
            clear c34
            by_cases c35 : 0 ≤ a2
            · as_aux_lemma =>
              rw [if_pos c35] at H
              have c35b0 : decide (0 ≤ a2) = true := decide_eq_true c35
              clear c35
              by_cases c36 : a2 < (l0.length : Int)
              · as_aux_lemma =>
                rw [if_pos c36] at H
                have c36b0 : decide (a2 < (l0.length : Int)) = true := decide_eq_true c36
                clear c36
                obtain ⟨ji37, hji37⟩ : ∃ j_ : Int, (wrap64 ((IntKind.u64.wrap (wrap64 (x14_1 + x15_1))) / 2)) = j_ := ⟨_, rfl⟩
                replace H : (if 0 ≤ (ji37) then (if (ji37) < (l0.length : Int) then ((preds_byName.f ((rd_T32 l0 a2).f0) ((rd_T32 l0 a2).f1) ((rd_T32 l0 a2).f2) ((rd_T32 l0 a2).f3) ((rd_T32 l0 a2).f4) ((rd_T32 l0 a2).f5) ((rd_T32 l0 a2).f6) ((rd_T32 l0 (ji37)).f0) ((rd_T32 l0 (ji37)).f1) ((rd_T32 l0 (ji37)).f2) ((rd_T32 l0 (ji37)).f3) ((rd_T32 l0 (ji37)).f4) ((rd_T32 l0 (ji37)).f5) ((rd_T32 l0 (ji37)).f6)).bind fun t171 => (if t171 < 0 then (api_Cmd_40.l2 k1 l0 a2 x14_1 ji37) else (api_Cmd_40.l2 k1 l0 a2 (wrap64 ((ji37) + 1)) x15_1))) else (none)) else (none)) = some r := by first | (rw [hji37] at H; exact H) | (simp only [hji37] at H ⊢; exact H)
                have hji37w : (IntKind.i64.wrap ((IntKind.u64.wrap (wrap64 (x14_1 + x15_1))) / 2)) = ji37 := (i64_w _).trans hji37
                by_cases c38 : 0 ≤ (ji37)
                · as_aux_lemma =>
                  rw [if_pos c38] at H
                  have c38b0 : decide (0 ≤ (ji37)) = true := decide_eq_true c38
                  clear c38
                  by_cases c39 : (ji37) < (l0.length : Int)
                  · as_aux_lemma =>
                    rw [if_pos c39] at H
                    have c39b0 : decide ((ji37) < (l0.length : Int)) = true := decide_eq_true c39
                    clear c39
                    replace H := Option.bind_eq_some_iff.mp H
                    obtain ⟨t171, A400, H⟩ := H
                    replace H : (if t171 < 0 then (api_Cmd_40.l2 k1 l0 a2 x14_1 ji37) else (api_Cmd_40.l2 k1 l0 a2 (wrap64 ((ji37) + 1)) x15_1)) = some r := H
                    have A40 := Aside0.mk A400
                    clear A400
                    by_cases c41 : t171 < 0
                    · as_aux_lemma =>
                      rw [if_pos c41] at H
                      have c41b0 : decide (t171 < 0) = true := decide_eq_true c41
                      clear c41
                      have H' := Aside0.mk H
                      clear H
                      try go_wp2
                      have n0_ := Aside0.mk (Kd.R_drew HO_0.out)
                      have n1_ := Aside0.mk (Kept.drew HK.out)
                      have n2_ := Aside0.mk (below_drew1 HB.out)
                      clear HO_0
                      clear HK
                      clear HB
                      have HO_0 := n0_
                      have HK := n1_
                      have HB := n2_
                      clear n0_ n1_ n2_
                      obtain ⟨Ao43, co43, eo43⟩ := Kd.R_slice HO_0.out
                      (first | subst eo43 | (injection eo43 with f1_ f2_ f3_; have f4_ := f1_.symm; have f5_ := f3_.symm; clear f1_ f2_ f3_; subst f4_; subst f5_))
                      have p169 : 0 ≤ (a2 : Int) := of_decide_eq_true (by first | (with_reducible assumption) | assumption)
                      have q169 : a2 < (l0.length : Int) := of_decide_eq_true (by first | (with_reducible assumption) | assumption)
                      obtain ⟨ad169, e169, hx169_0, hx169_1, hx169_2, hx169_3, hx169_4, hx169_5, hx169_6⟩ := at_T32 (Kd.R_reads' HO_0.out).2.2 a2 p169 q169
                      cases e169
                      replace p169 := eq_true p169
                      replace q169 := eq_true q169
                      have p170 : 0 ≤ ((ji37) : Int) := of_decide_eq_true (by first | (with_reducible assumption) | assumption)
                      have q170 : (ji37) < (l0.length : Int) := of_decide_eq_true (by first | (with_reducible assumption) | assumption)
                      obtain ⟨ad170, e170, hx170_0, hx170_1, hx170_2, hx170_3, hx170_4, hx170_5, hx170_6⟩ := at_T32 (Kd.R_reads' HO_0.out).2.2 (ji37) p170 q170
                      obtain rfl : ad169 = ad170 := (by injection e170)
                      replace p170 := eq_true p170
                      replace q170 := eq_true q170
                      have mixed : Try.prog.follows .mixedOrders = true := by first | rfl | kernel_rfl
                      have aE : ∀ w, (isAgg 32).run Try.prog w = .ok true w := by intro w_; first | (go_simp; done) | (simp [isAgg, hu32]; done)
                      have zE0 : ∀ w, (Go.sizeOf 32).run Try.prog w = .ok k32.sz w := by intro w_; first | (go_simp; rfl) | (simp [Go.sizeOf, hu32]; rfl)
                      obtain ⟨k7_, hk7_⟩ : ∃ k, k = k32.sz := ⟨_, rfl⟩
                      have zE : ∀ w, (Go.sizeOf 32).run Try.prog w = .ok k7_ w := by rw [hk7_]; exact zE0
                      clear zE0 hu32
                      obtain ⟨c0_, ha0_, la0_⟩ := Kd.C_loads (Kd.R_reads' HO_0.out).2.2 z32 a2 (of_eq_true p169) (of_eq_true q169)
                      replace ha0_ : k32.K _ (rd_T32 l0 a2) c0_ := ha0_
                      obtain rfl := k32_open ha0_
                      replace la0_ := la0_ Try.prog
                      rw [← hk7_] at la0_
                      obtain ⟨c1_, ha1_, la1_⟩ := Kd.C_loads (Kd.R_reads' HO_0.out).2.2 z32 (ji37) (of_eq_true p170) (of_eq_true q170)
                      replace ha1_ : k32.K _ (rd_T32 l0 (ji37)) c1_ := ha1_
                      obtain rfl := k32_open ha1_
                      replace la1_ := la1_ Try.prog
                      rw [← hk7_] at la1_
                      have HCG_ : ∀ p_ : Past wr.drew, Calls Try.prog 26 _ p_.now (fun e_ w_ => e_ = .returned _ ∧ ∃ q_ : Past wr.drew, w_ = q_.now) := fun p_ => (preds_byName.calls ((rd_T32 l0 a2).f0) ((rd_T32 l0 a2).f1) ((rd_T32 l0 a2).f2) ((rd_T32 l0 a2).f3) ((rd_T32 l0 a2).f4) ((rd_T32 l0 a2).f5) ((rd_T32 l0 a2).f6) ((rd_T32 l0 (ji37)).f0) ((rd_T32 l0 (ji37)).f1) ((rd_T32 l0 (ji37)).f2) ((rd_T32 l0 (ji37)).f3) ((rd_T32 l0 (ji37)).f4) ((rd_T32 l0 (ji37)).f5) ((rd_T32 l0 (ji37)).f6) t171 p_.now A40.out).mono (fun e_ w_ h_ => ⟨h_.1, ⟨w_, below_step p_.le h_.2⟩, rfl⟩)
                      have eg_ : ∀ args w, (callFunc 26 args).run Try.prog w = .ok (.enter 26 args) w := fun args w => enters_ Try.func26 (by kernel_rfl) rfl args w
                      clear hk7_
                      refine wp_region_past (by assumption) (by kernel_rfl) ?_
                      repeat (quiet_step (first | exact HCG_ _))
                      refine wpQuiet_nil ?_
                      intro w44 hwq_
                      have hle_ : Below wr.drew.heap.size wr.drew w44 := by obtain ⟨p_, rfl⟩ := hwq_; exact p_.le
                      have n0_ := Aside0.mk (Kd.R_below HO_0.out hle_)
                      have n1_ := Aside0.mk (Kept.below HK.out hle_)
                      have n2_ := Aside0.mk (below_step HB.out hle_)
                      clear HO_0 HK HB hwq_ hle_ HCG_ eg_ aE zE mixed
                      clear la0_ ha0_ la1_ ha1_
                      have HO_0 := n0_
                      have HK := n1_
                      have HB := n2_
                      clear n0_ n1_ n2_
                      have hu32 := Try.underlying32
                      try go_wp2
                      go_roundg k1
                      case measure => have := HK1.out; omega
                      case rel => exact ⟨(x14_1), (ji37), (by first | rfl | (simp; done) | (simp [*]; done)), (by first | rfl | (simp; done) | (simp only [← hji37] <;> (first | rfl | simp)) | (simp [*]; done)), H', ⟨by have := HK1.out; omega⟩, ⟨by (with_reducible repeat (first | apply Kd.R_alloc | apply Kd.R_drewN | apply Kd.R_drew)); exact HO_0.out⟩, ⟨by repeat (first | (with_reducible first | exact HK.out | apply Kept.alloc | apply Kept.drewN | apply Kept.drew) | exact HK.out)⟩, ⟨by repeat (first | (with_reducible first | exact HB.out | apply below_alloc | apply pw_below_drewN | apply below_drew1) | exact HB.out)⟩⟩
                    · as_aux_lemma =>
                      rw [if_neg c41] at H
                      have c41b0 : decide (t171 < 0) = false := decide_eq_false c41
                      clear c41
                      have H' := Aside0.mk H
                      clear H
                      try go_wp2
                      have n0_ := Aside0.mk (Kd.R_drew HO_0.out)
                      have n1_ := Aside0.mk (Kept.drew HK.out)
                      have n2_ := Aside0.mk (below_drew1 HB.out)
                      clear HO_0
                      clear HK
                      clear HB
                      have HO_0 := n0_
                      have HK := n1_
                      have HB := n2_
                      clear n0_ n1_ n2_
                      obtain ⟨Ao46, co46, eo46⟩ := Kd.R_slice HO_0.out
                      (first | subst eo46 | (injection eo46 with f1_ f2_ f3_; have f4_ := f1_.symm; have f5_ := f3_.symm; clear f1_ f2_ f3_; subst f4_; subst f5_))
                      have p169 : 0 ≤ (a2 : Int) := of_decide_eq_true (by first | (with_reducible assumption) | assumption)
                      have q169 : a2 < (l0.length : Int) := of_decide_eq_true (by first | (with_reducible assumption) | assumption)
                      obtain ⟨ad169, e169, hx169_0, hx169_1, hx169_2, hx169_3, hx169_4, hx169_5, hx169_6⟩ := at_T32 (Kd.R_reads' HO_0.out).2.2 a2 p169 q169
                      cases e169
                      replace p169 := eq_true p169
                      replace q169 := eq_true q169
                      have p170 : 0 ≤ ((ji37) : Int) := of_decide_eq_true (by first | (with_reducible assumption) | assumption)
                      have q170 : (ji37) < (l0.length : Int) := of_decide_eq_true (by first | (with_reducible assumption) | assumption)
                      obtain ⟨ad170, e170, hx170_0, hx170_1, hx170_2, hx170_3, hx170_4, hx170_5, hx170_6⟩ := at_T32 (Kd.R_reads' HO_0.out).2.2 (ji37) p170 q170
                      obtain rfl : ad169 = ad170 := (by injection e170)
                      replace p170 := eq_true p170
                      replace q170 := eq_true q170
                      have mixed : Try.prog.follows .mixedOrders = true := by first | rfl | kernel_rfl
                      have aE : ∀ w, (isAgg 32).run Try.prog w = .ok true w := by intro w_; first | (go_simp; done) | (simp [isAgg, hu32]; done)
                      have zE0 : ∀ w, (Go.sizeOf 32).run Try.prog w = .ok k32.sz w := by intro w_; first | (go_simp; rfl) | (simp [Go.sizeOf, hu32]; rfl)
                      obtain ⟨k7_, hk7_⟩ : ∃ k, k = k32.sz := ⟨_, rfl⟩
                      have zE : ∀ w, (Go.sizeOf 32).run Try.prog w = .ok k7_ w := by rw [hk7_]; exact zE0
                      clear zE0 hu32
                      obtain ⟨c0_, ha0_, la0_⟩ := Kd.C_loads (Kd.R_reads' HO_0.out).2.2 z32 a2 (of_eq_true p169) (of_eq_true q169)
                      replace ha0_ : k32.K _ (rd_T32 l0 a2) c0_ := ha0_
                      obtain rfl := k32_open ha0_
                      replace la0_ := la0_ Try.prog
                      rw [← hk7_] at la0_
                      obtain ⟨c1_, ha1_, la1_⟩ := Kd.C_loads (Kd.R_reads' HO_0.out).2.2 z32 (ji37) (of_eq_true p170) (of_eq_true q170)
                      replace ha1_ : k32.K _ (rd_T32 l0 (ji37)) c1_ := ha1_
                      obtain rfl := k32_open ha1_
                      replace la1_ := la1_ Try.prog
                      rw [← hk7_] at la1_
                      have HCG_ : ∀ p_ : Past wr.drew, Calls Try.prog 26 _ p_.now (fun e_ w_ => e_ = .returned _ ∧ ∃ q_ : Past wr.drew, w_ = q_.now) := fun p_ => (preds_byName.calls ((rd_T32 l0 a2).f0) ((rd_T32 l0 a2).f1) ((rd_T32 l0 a2).f2) ((rd_T32 l0 a2).f3) ((rd_T32 l0 a2).f4) ((rd_T32 l0 a2).f5) ((rd_T32 l0 a2).f6) ((rd_T32 l0 (ji37)).f0) ((rd_T32 l0 (ji37)).f1) ((rd_T32 l0 (ji37)).f2) ((rd_T32 l0 (ji37)).f3) ((rd_T32 l0 (ji37)).f4) ((rd_T32 l0 (ji37)).f5) ((rd_T32 l0 (ji37)).f6) t171 p_.now A40.out).mono (fun e_ w_ h_ => ⟨h_.1, ⟨w_, below_step p_.le h_.2⟩, rfl⟩)
                      have eg_ : ∀ args w, (callFunc 26 args).run Try.prog w = .ok (.enter 26 args) w := fun args w => enters_ Try.func26 (by kernel_rfl) rfl args w
                      clear hk7_
                      refine wp_region_past (by assumption) (by kernel_rfl) ?_
                      repeat (quiet_step (first | exact HCG_ _))
                      refine wpQuiet_nil ?_
                      intro w47 hwq_
                      have hle_ : Below wr.drew.heap.size wr.drew w47 := by obtain ⟨p_, rfl⟩ := hwq_; exact p_.le
                      have n0_ := Aside0.mk (Kd.R_below HO_0.out hle_)
                      have n1_ := Aside0.mk (Kept.below HK.out hle_)
                      have n2_ := Aside0.mk (below_step HB.out hle_)
                      clear HO_0 HK HB hwq_ hle_ HCG_ eg_ aE zE mixed
                      clear la0_ ha0_ la1_ ha1_
                      have HO_0 := n0_
                      have HK := n1_
                      have HB := n2_
                      clear n0_ n1_ n2_
                      have hu32 := Try.underlying32
                      try go_wp2
                      go_roundg k1
                      case measure => have := HK1.out; omega
                      case rel => exact ⟨(wrap64 ((ji37) + 1)), (x15_1), (by first | rfl | (simp; done) | (simp only [← hji37] <;> (first | rfl | simp)) | (simp [*]; done)), (by first | rfl | (simp; done) | (simp [*]; done)), H', ⟨by have := HK1.out; omega⟩, ⟨by (with_reducible repeat (first | apply Kd.R_alloc | apply Kd.R_drewN | apply Kd.R_drew)); exact HO_0.out⟩, ⟨by repeat (first | (with_reducible first | exact HK.out | apply Kept.alloc | apply Kept.drewN | apply Kept.drew) | exact HK.out)⟩, ⟨by repeat (first | (with_reducible first | exact HB.out | apply below_alloc | apply pw_below_drewN | apply below_drew1) | exact HB.out)⟩⟩
                  · rw [if_neg c39] at H
                    exact absurd H (by simp)
                · rw [if_neg c38] at H
                  exact absurd H (by simp)
              · rw [if_neg c36] at H
                exact absurd H (by simp)
            · rw [if_neg c35] at H
              exact absurd H (by simp)
          · as_aux_lemma =>
            rw [if_neg c34] at H
            have c34b0 : decide (x14_1 < x15_1) = false := decide_eq_false c34
            clear c34
            have H' := Aside0.mk H
            clear H
            go_wp2
            go_loopg [17] k1 (fun kq v17 w' => ∃ (x0_2 : List (S32)) (x17_2 : Int), v17 = .int .i64 x17_2 ∧ Aside0 (api_Cmd_40.l3 kq x0_2 x14_1 x17_2 = some r) ∧ Aside0 (kq ≤ k1) ∧ Aside0 (Kd.R k32 32 w' w0.heap.size (fun k_ => (P0_ k_ ∨ w.heap.size ≤ k_)) u9000_ x0_2) ∧ Aside0 (Kept w w' (fun k_ => P0_ k_)) ∧ Aside0 (Below w0.heap.size w0 w'))
            case atStart => exact ⟨(l0), (a2), (by first | rfl | (simp; done) | (simp [*]; done)), H', ⟨Nat.le_refl _⟩, ⟨by (with_reducible repeat (first | apply Kd.R_alloc | apply Kd.R_drewN | apply Kd.R_drew)); exact HO_0.out⟩, ⟨by repeat (first | (with_reducible first | exact HK.out | apply Kept.alloc | apply Kept.drewN | apply Kept.drew) | exact HK.out)⟩, ⟨by repeat (first | (with_reducible first | exact HB.out | apply below_alloc | apply pw_below_drewN | apply below_drew1) | exact HB.out)⟩⟩
            case round =>
              clear H'
              try clear c1
              try clear p1
              try clear q1
              try clear hx1
              try clear c2
              try clear p2
              try clear q2
              try clear hx2
              try clear c3
              try clear c4
              try clear c6
              try clear c6b0
              try clear c6b1
              try clear p6
              try clear c7
              try clear c7b0
              try clear c9
              try clear c9b0
              try clear c10
              try clear c10b0
              try clear c11
              try clear c11b0
              try clear c12
              try clear c12b0
              try clear c14
              try clear c14b0
              try clear p16
              try clear q16
              try clear hx16
              try clear p17
              try clear q17
              try clear hx17
              try clear c21
              try clear c21b0
              try clear c23
              try clear c23b0
              try clear c24
              try clear c24b0
              try clear c25
              try clear c25b0
              try clear c26
              try clear c26b0
              try clear c27
              try clear p27
              try clear q27
              try clear hx27
              try clear hf27
              try clear c28
              try clear p28
              try clear q28
              try clear hx28
              try clear hf28
              try clear c31
              try clear c32
              try clear c33
              try clear c33b0
              try clear c33b1
              try clear c34
              try clear c34b0
              try clear c35
              try clear c35b0
              try clear c36
              try clear c36b0
              try clear c38
              try clear c38b0
              try clear c39
              try clear c39b0
              try clear c40
              try clear c41
              try clear c41b0
              try clear hx162_0
              try clear hx162_1
              try clear hx162_2
              try clear hx162_3
              try clear hx162_4
              try clear hx162_5
              try clear hx162_6
              try clear hx163_0
              try clear hx163_1
              try clear hx163_2
              try clear hx163_3
              try clear hx163_4
              try clear hx163_5
              try clear hx163_6
              try clear hx165_0
              try clear hx165_1
              try clear hx165_2
              try clear hx165_3
              try clear hx165_4
              try clear hx165_5
              try clear hx165_6
              try clear hx166_0
              try clear hx166_1
              try clear hx166_2
              try clear hx166_3
              try clear hx166_4
              try clear hx166_5
              try clear hx166_6
              try clear hx169_0
              try clear hx169_1
              try clear hx169_2
              try clear hx169_3
              try clear hx169_4
              try clear hx169_5
              try clear hx169_6
              try clear hx170_0
              try clear hx170_1
              try clear hx170_2
              try clear hx170_3
              try clear hx170_4
              try clear hx170_5
              try clear hx170_6
              try clear hx27_0
              try clear hx27_1
              try clear hx27_2
              try clear hx27_3
              try clear hx27_4
              try clear hx27_5
              try clear hx27_6
              try clear hx28_0
              try clear hx28_1
              try clear hx28_2
              try clear hx28_3
              try clear hx28_4
              try clear hx28_5
              try clear hx28_6
              try clear p1
              try clear p16
              try clear p162
              try clear p163
              try clear p165
              try clear p166
              try clear p169
              try clear p170
              try clear p2
              try clear p27
              try clear p28
              try clear p6
              try clear q1
              try clear q16
              try clear q162
              try clear q163
              try clear q165
              try clear q166
              try clear q169
              try clear q170
              try clear q2
              try clear q27
              try clear q28
              obtain ⟨x0_2, x17_2, rfl, HA, HK2, HO_0, HK, HB⟩ := hrel
              cases gk with
              | zero => exact absurd HA.out (by simp [api_Cmd_40.l3])
              | succ k2 =>
                have H := HA.out
                clear HA
                simp only [api_Cmd_40.l3] at H
                by_cases c48 : x17_2 > x14_1
                · as_aux_lemma =>
                  rw [if_pos c48] at H
                  have c48b0 : decide (x14_1 < x17_2) = true := decide_eq_true c48
                  clear c48
                  obtain ⟨ji49, hji49⟩ : ∃ j_ : Int, (wrap64 (x17_2 - 1)) = j_ := ⟨_, rfl⟩
                  replace H : (if 0 ≤ (ji49) then (if (ji49) < (x0_2.length : Int) then (if 0 ≤ x17_2 then (if x17_2 < (x0_2.length : Int) then (api_Cmd_40.l3 k2 ((x0_2.set (x17_2 : Int).toNat (⟨(rd_T32 x0_2 (ji49)).f0, (rd_T32 x0_2 (ji49)).f1, (rd_T32 x0_2 (ji49)).f2, (rd_T32 x0_2 (ji49)).f3, (rd_T32 x0_2 (ji49)).f4, (rd_T32 x0_2 (ji49)).f5, (rd_T32 x0_2 (ji49)).f6⟩ : S32)).set ((ji49) : Int).toNat (⟨(rd_T32 x0_2 x17_2).f0, (rd_T32 x0_2 x17_2).f1, (rd_T32 x0_2 x17_2).f2, (rd_T32 x0_2 x17_2).f3, (rd_T32 x0_2 x17_2).f4, (rd_T32 x0_2 x17_2).f5, (rd_T32 x0_2 x17_2).f6⟩ : S32)) x14_1 ji49) else (none)) else (none)) else (none)) else (none)) = some r := by first | (rw [hji49] at H; exact H) | (simp only [hji49] at H ⊢; exact H)
                  have hji49w : (IntKind.i64.wrap (x17_2 - 1)) = ji49 := (i64_w _).trans hji49
                  by_cases c50 : 0 ≤ (ji49)
                  · as_aux_lemma =>
                    rw [if_pos c50] at H
                    have c50b0 : decide (0 ≤ (ji49)) = true := decide_eq_true c50
                    clear c50
                    by_cases c51 : (ji49) < (x0_2.length : Int)
                    · as_aux_lemma =>
                      rw [if_pos c51] at H
                      have c51b0 : decide ((ji49) < (x0_2.length : Int)) = true := decide_eq_true c51
                      clear c51
                      by_cases c52 : 0 ≤ x17_2
                      · as_aux_lemma =>
                        rw [if_pos c52] at H
                        have c52b0 : decide (0 ≤ x17_2) = true := decide_eq_true c52
                        clear c52
                        by_cases c53 : x17_2 < (x0_2.length : Int)
                        · as_aux_lemma =>
                          rw [if_pos c53] at H
                          have c53b0 : decide (x17_2 < (x0_2.length : Int)) = true := decide_eq_true c53
                          clear c53
                          obtain ⟨y174, hy174⟩ : ∃ y_ : List (S32), y_ = (x0_2.set (x17_2 : Int).toNat (⟨(rd_T32 x0_2 (ji49)).f0, (rd_T32 x0_2 (ji49)).f1, (rd_T32 x0_2 (ji49)).f2, (rd_T32 x0_2 (ji49)).f3, (rd_T32 x0_2 (ji49)).f4, (rd_T32 x0_2 (ji49)).f5, (rd_T32 x0_2 (ji49)).f6⟩ : S32)) := ⟨_, rfl⟩
                          replace H : (api_Cmd_40.l3 k2 (y174.set ((ji49) : Int).toNat (⟨(rd_T32 x0_2 x17_2).f0, (rd_T32 x0_2 x17_2).f1, (rd_T32 x0_2 x17_2).f2, (rd_T32 x0_2 x17_2).f3, (rd_T32 x0_2 x17_2).f4, (rd_T32 x0_2 x17_2).f5, (rd_T32 x0_2 x17_2).f6⟩ : S32)) x14_1 ji49) = some r := by first | (rw [hy174]; with_reducible exact H) | (have H2_ := (Option.bind_some _ _).symm.trans H; rw [hy174]; with_reducible exact H2_) | (have H2_ := (Option.bind_some _ _).symm.trans H; with_reducible exact H2_) | with_reducible exact H | (rw [hy174]; exact H) | exact H
                          have Ny174 := Aside0.mk hy174
                          clear hy174
                          obtain ⟨y175, hy175⟩ : ∃ y_ : List (S32), y_ = (y174.set ((ji49) : Int).toNat (⟨(rd_T32 x0_2 x17_2).f0, (rd_T32 x0_2 x17_2).f1, (rd_T32 x0_2 x17_2).f2, (rd_T32 x0_2 x17_2).f3, (rd_T32 x0_2 x17_2).f4, (rd_T32 x0_2 x17_2).f5, (rd_T32 x0_2 x17_2).f6⟩ : S32)) := ⟨_, rfl⟩
                          replace H : (api_Cmd_40.l3 k2 y175 x14_1 ji49) = some r := by first | (rw [hy175]; with_reducible exact H) | (have H2_ := (Option.bind_some _ _).symm.trans H; rw [hy175]; with_reducible exact H2_) | (have H2_ := (Option.bind_some _ _).symm.trans H; with_reducible exact H2_) | with_reducible exact H | (rw [hy175]; exact H) | exact H
                          have Ny175 := Aside0.mk hy175
                          clear hy175
                          have H' := Aside0.mk H
                          clear H
                          try go_wp2
                          have n0_ := Aside0.mk (Kd.R_drew HO_0.out)
                          have n1_ := Aside0.mk (Kept.drew HK.out)
                          have n2_ := Aside0.mk (below_drew1 HB.out)
                          clear HO_0
                          clear HK
                          clear HB
                          have HO_0 := n0_
                          have HK := n1_
                          have HB := n2_
                          clear n0_ n1_ n2_
                          obtain ⟨Ao57, co57, eo57⟩ := Kd.R_slice HO_0.out
                          (first | subst eo57 | (injection eo57 with f1_ f2_ f3_; have f4_ := f1_.symm; have f5_ := f3_.symm; clear f1_ f2_ f3_; subst f4_; subst f5_))
                          have mixed : Try.prog.follows .mixedOrders = true := by first | rfl | kernel_rfl
                          have pa_ : 0 ≤ (x17_2 : Int) := of_decide_eq_true (by first | (with_reducible assumption) | assumption)
                          have qa_ : (x17_2 : Int) < (x0_2.length : Int) := of_decide_eq_true (by first | (with_reducible assumption) | assumption)
                          have pb_ : 0 ≤ ((ji49) : Int) := of_decide_eq_true (by first | (with_reducible assumption) | assumption)
                          have qb_ : ((ji49) : Int) < (x0_2.length : Int) := of_decide_eq_true (by first | (with_reducible assumption) | assumption)
                          obtain ⟨go54, co54, eo54, gb54, gl54, cl54, HG54⟩ := Kd.R_form HO_0.out (by omega)
                          (first | cases eo54 | (injection eo54 with ea_ en_ ec_; (first | subst ea_ | (injection ea_ with ea_; subst ea_)); subst ec_; clear en_))
                          have GB54 := Aside0.mk gb54
                          have HMgo54 := Aside0.mk (show (P0_ go54 ∨ w.heap.size ≤ go54) from (HO_0.out.1 _ rfl))
                          clear gb54 gl54 HG54
                          have aE : ∀ w, (isAgg 32).run Try.prog w = .ok true w := by intro w_; first | (go_simp; done) | (simp [isAgg, hu32]; done)
                          have zE0 : ∀ w, (Go.sizeOf 32).run Try.prog w = .ok k32.sz w := by intro w_; first | (go_simp; rfl) | (simp [Go.sizeOf, hu32]; rfl)
                          obtain ⟨k7_, hk7_⟩ : ∃ k, k = k32.sz := ⟨_, rfl⟩
                          have zE : ∀ w, (Go.sizeOf 32).run Try.prog w = .ok k7_ w := by rw [hk7_]; exact zE0
                          clear zE0 hu32
                          obtain ⟨ca_, cb_, la_, lb_, ld1_, ld2_, st1_, st2_, HR_, HG_⟩ := Kd.R_swap HO_0.out z32 x17_2 (ji49) pa_ qa_ pb_ qb_
                          rw [← hk7_] at la_ lb_ HR_ HG_
                          replace ld1_ : Sem.run Try.prog (loadCellsFrom ⟨go54, (x17_2 : Int).toNat * k7_, none⟩ 0 k7_ #[]) wr.drew = .ok ca_.toArray wr.drew := by rw [hk7_]; exact ld1_ _
                          replace ld2_ : Sem.run Try.prog (loadCellsFrom ⟨go54, ((ji49) : Int).toNat * k7_, none⟩ 0 k7_ #[]) wr.drew = .ok cb_.toArray wr.drew := by rw [hk7_]; exact ld2_ _
                          replace st1_ : Sem.run Try.prog (storeCells ⟨go54, (x17_2 : Int).toNat * k7_, none⟩ cb_ 0) wr.drew = .ok () (wr.drew.setCells go54 ((x17_2 : Int).toNat * k7_) cb_) := by rw [hk7_]; exact st1_ _
                          replace st2_ : Sem.run Try.prog (storeCells ⟨go54, ((ji49) : Int).toNat * k7_, none⟩ ca_ 0) (wr.drew.setCells go54 ((x17_2 : Int).toNat * k7_) cb_) = .ok () ((wr.drew.setCells go54 ((x17_2 : Int).toNat * k7_) cb_).setCells go54 (((ji49) : Int).toNat * k7_) ca_) := by rw [hk7_]; exact st2_ _
                          have ey_ : y175 = ((x0_2.set (x17_2 : Int).toNat (x0_2.getD ((ji49) : Int).toNat z32)).set ((ji49) : Int).toNat (x0_2.getD (x17_2 : Int).toNat z32)) := by rw [Ny175.out, Ny174.out]; rfl
                          rw [← ey_] at HR_
                          have HQ59 := Aside0.mk HR_
                          have n1_ := Aside0.mk (Kept.of_grown HG_ HK.out (fun k_ he_ => by cases he_; exact HMgo54.out))
                          have n2_ := Aside0.mk (HB.out.grown HG_ (Nat.le_trans (Nat.le_refl _) HB.out.size) (fun k_ he_ => by cases he_; exact GB54.out))
                          clear HK HB HO_0
                          have HK := n1_
                          have HB := n2_
                          clear n1_ n2_ HR_ HG_ hk7_ ey_
                          replace pa_ := eq_true pa_
                          replace qa_ := eq_true qa_
                          replace pb_ := eq_true pb_
                          replace qb_ := eq_true qb_
                          go_big_region_o
                          all_goals go_wp2
                          have hu32 := Try.underlying32
                          try go_wp2
                          go_roundg k2
                          case measure => have := HK1.out; have := HK2.out; omega
                          case rel => exact ⟨(y175), (ji49), (by first | rfl | (simp; done) | (simp only [← hji49] <;> (first | rfl | simp)) | (simp [*]; done)), H', ⟨by have := HK1.out; have := HK2.out; omega⟩, ⟨by (with_reducible repeat (first | apply Kd.R_alloc | apply Kd.R_drewN | apply Kd.R_drew)); exact HQ59.out⟩, ⟨by repeat (first | (with_reducible first | exact HK.out | apply Kept.alloc | apply Kept.drewN | apply Kept.drew | refine Kept.setCell ?_ HMgo54.out _ | refine Kept.setCell ?_ HMgo54.out _ | refine Kept.setCell ?_ HMgo54.out _ | refine Kept.setCell ?_ HMgo54.out _ | refine Kept.setCell ?_ HMgo54.out _ | refine Kept.setCell ?_ HMgo54.out _ | refine Kept.setCell ?_ HMgo54.out _ | refine Kept.setCell ?_ HMgo54.out _ | refine Kept.setCell ?_ HMgo54.out _ | refine Kept.setCell ?_ HMgo54.out _ | refine Kept.setCell ?_ HMgo54.out _ | refine Kept.setCell ?_ HMgo54.out _ | refine Kept.setCell ?_ HMgo54.out _ | refine Kept.setCell ?_ HMgo54.out _) | exact HK.out)⟩, ⟨by repeat (first | (with_reducible first | exact HB.out | apply below_alloc | apply pw_below_drewN | apply below_drew1 | refine below_set ?_ GB54.out | refine below_set ?_ GB54.out | refine below_set ?_ GB54.out | refine below_set ?_ GB54.out | refine below_set ?_ GB54.out | refine below_set ?_ GB54.out | refine below_set ?_ GB54.out | refine below_set ?_ GB54.out | refine below_set ?_ GB54.out | refine below_set ?_ GB54.out | refine below_set ?_ GB54.out | refine below_set ?_ GB54.out | refine below_set ?_ GB54.out | refine below_set ?_ GB54.out) | exact HB.out)⟩⟩
                        · rw [if_neg c53] at H
                          exact absurd H (by simp)
                      · rw [if_neg c52] at H
                        exact absurd H (by simp)
                    · rw [if_neg c51] at H
                      exact absurd H (by simp)
                  · rw [if_neg c50] at H
                    exact absurd H (by simp)
                · rw [if_neg c48] at H
                  have c48b0 : decide (x14_1 < x17_2) = false := decide_eq_false c48
                  clear c48
                  obtain rfl := Option.some.inj H
                  go_wp2
                  first | go_end0 | ((try simp only [Exit.inBlock, Exit.then]); refine bodyPost_ret (results_none rfl _ _ _) rfl ?_)
                  exact ⟨by first | rfl | (simp [errW_none, errW_some] <;> rfl) | (simp [*, errW_none, errW_some] <;> rfl), by (with_reducible repeat (first | apply Kd.R_alloc | apply Kd.R_drewN | apply Kd.R_drew)); exact HO_0.out, by repeat (first | (with_reducible first | exact HB.out | apply below_alloc | apply pw_below_drewN | apply below_drew1) | exact HB.out), by repeat (first | (with_reducible first | exact HK.out | apply Kept.alloc | apply Kept.drewN | apply Kept.drew) | exact HK.out)⟩
set_option maxHeartbeats 8000000 in
set_option maxRecDepth 100000 in
theorem api_Cmd_40.calls_c (k : Nat) (ih : ∀ m_ : Nat, m_ < k + 1 → ∀ (P0_ : Nat → Prop) (u9000_ : Value) (l0 : List (S32)) (a1 : Int) (a2 : Int) (a3 : Int) (a4 : Int) (r : List (S32)) (w0 w : World) (hB : Below w0.heap.size w0 w) (ho0 : Kd.R k32 32 w w0.heap.size P0_ u9000_ l0) (h : api_Cmd_40.f m_ l0 a1 a2 a3 a4 = some r),
    Calls Try.prog 40 #[u9000_, .int .i64 a1, .int .i64 a2, .int .i64 a3, .func (.func 26) #[] #[]] w fun e w' => e = .returned (.tuple #[]) ∧ Kd.R k32 32 w' w0.heap.size (fun k_ => (P0_ k_ ∨ w.heap.size ≤ k_)) u9000_ r ∧ Below w0.heap.size w0 w' ∧ Kept w w' (fun k_ => P0_ k_)) : ∀ (P0_ : Nat → Prop) (u9000_ : Value) (l0 : List (S32)) (a1 : Int) (a2 : Int) (a3 : Int) (a4 : Int) (r : List (S32)) (w0 w : World) (hB : Below w0.heap.size w0 w) (ho0 : Kd.R k32 32 w w0.heap.size P0_ u9000_ l0) (h : api_Cmd_40.f (k + 1) l0 a1 a2 a3 a4 = some r) (c6 : ¬ ((wrap64 (a2 - a1)) = 1)) (c33 : ¬ ((wrap64 (a3 - a2)) = 1)),
    Calls Try.prog 40 #[u9000_, .int .i64 a1, .int .i64 a2, .int .i64 a3, .func (.func 26) #[] #[]] w fun e w' => e = .returned (.tuple #[]) ∧ Kd.R k32 32 w' w0.heap.size (fun k_ => (P0_ k_ ∨ w.heap.size ≤ k_)) u9000_ r ∧ Below w0.heap.size w0 w' ∧ Kept w w' (fun k_ => P0_ k_) := by
  intro P0_ u9000_ l0 a1 a2 a3 a4 r w0 w hB ho0 h c6 c33
  simp only [api_Cmd_40.f] at h
  have hu32 := Try.underlying32
  have HO0 := Aside0.mk (show Kd.R k32 32 w w0.heap.size (fun k_ => (P0_ k_ ∨ w.heap.size ≤ k_)) u9000_ l0 from Kd.R_mono ho0 (fun k_ hk => (.inl hk)))
  have HK := Aside0.mk (Kept.refl w (fun k_ => P0_ k_))
  have HW0 := Aside0.mk hB.size
  have HB := Aside0.mk hB
  clear hB
  have H : (if (wrap64 (a2 - a1)) = 1 then (api_Cmd_40.l0 k l0 a1 a2 a3) else (if (wrap64 (a3 - a2)) = 1 then (api_Cmd_40.l2 k l0 a2 a1 a2) else (if a2 > (wrap64 ((IntKind.u64.wrap (wrap64 (a1 + a3))) / 2)) then (api_Cmd_40.j4 k l0 a1 a2 a3 a4 (wrap64 ((IntKind.u64.wrap (wrap64 (a1 + a3))) / 2)) (wrap64 ((wrap64 ((IntKind.u64.wrap (wrap64 (a1 + a3))) / 2)) + a2)) (wrap64 ((wrap64 ((wrap64 ((IntKind.u64.wrap (wrap64 (a1 + a3))) / 2)) + a2)) - a3)) (wrap64 ((IntKind.u64.wrap (wrap64 (a1 + a3))) / 2))) else (api_Cmd_40.j4 k l0 a1 a2 a3 a4 (wrap64 ((IntKind.u64.wrap (wrap64 (a1 + a3))) / 2)) (wrap64 ((wrap64 ((IntKind.u64.wrap (wrap64 (a1 + a3))) / 2)) + a2)) a1 a2)))) = some r := h
  clear h
  · rw [if_neg c6] at H
    have c6b0 : ((wrap64 (a2 - a1)) == 1) = false := beq_eq_false_iff_ne.mpr c6
    have c6b1 : ((wrap64 (a2 - a1)) != 1) = true := bne_iff_ne.mpr c6
    · as_aux_lemma =>
      rw [if_neg c33] at H
      have c33b0 : ((wrap64 (a3 - a2)) == 1) = false := beq_eq_false_iff_ne.mpr c33
      have c33b1 : ((wrap64 (a3 - a2)) != 1) = true := bne_iff_ne.mpr c33
      have HC60 := Aside0.mk H
      clear H
      go_enter Try.func40, Try.ntmps40
      go_upto_if 140 with (fail)
      go_cut [20, 21] (fun v20 v21 wc => ∃ (kq : Nat) (x20_59 : Int) (x21_59 : Int), v20 = .int .i64 x20_59 ∧ v21 = .int .i64 x21_59 ∧ Aside0 (api_Cmd_40.j4 kq l0 a1 a2 a3 a4 (wrap64 ((IntKind.u64.wrap (wrap64 (a1 + a3))) / 2)) (wrap64 ((wrap64 ((IntKind.u64.wrap (wrap64 (a1 + a3))) / 2)) + a2)) x20_59 x21_59 = some r) ∧ Aside0 (kq ≤ k) ∧ Aside0 (Kd.R k32 32 wc w0.heap.size (fun k_ => (P0_ k_ ∨ w.heap.size ≤ k_)) u9000_ l0) ∧ Aside0 (Kept w wc (fun k_ => P0_ k_)) ∧ Aside0 (Below w0.heap.size w0 wc))
      case first =>
        have H := HC60.out
        clear HC60
        by_cases c61 : a2 > (wrap64 ((IntKind.u64.wrap (wrap64 (a1 + a3))) / 2))
        · rw [if_pos c61] at H
          have c61b0 : decide ((wrap64 ((IntKind.u64.wrap (wrap64 (a1 + a3))) / 2)) < a2) = true := decide_eq_true c61
          clear c61
          (first | rw [c61b0] | (simp only [i64_w, i32_w]; rw [c61b0]) | skip)
          have H' := Aside0.mk H
          clear H
          go_wp2
          go_meet
          case rel => exact ⟨_, (wrap64 ((wrap64 ((wrap64 ((IntKind.u64.wrap (wrap64 (a1 + a3))) / 2)) + a2)) - a3)), (wrap64 ((IntKind.u64.wrap (wrap64 (a1 + a3))) / 2)), (by first | rfl | (simp; done) | (simp [*]; done)), (by first | rfl | (simp; done) | (simp [*]; done)), H', ⟨by first | omega | exact Nat.le_refl _⟩, ⟨by (with_reducible repeat (first | apply Kd.R_alloc | apply Kd.R_drewN | apply Kd.R_drew)); exact HO0.out⟩, ⟨by repeat (first | (with_reducible first | exact HK.out | apply Kept.alloc | apply Kept.drewN | apply Kept.drew) | exact HK.out)⟩, ⟨by repeat (first | (with_reducible first | exact HB.out | apply below_alloc | apply pw_below_drewN | apply below_drew1) | exact HB.out)⟩⟩
        · rw [if_neg c61] at H
          have c61b0 : decide ((wrap64 ((IntKind.u64.wrap (wrap64 (a1 + a3))) / 2)) < a2) = false := decide_eq_false c61
          clear c61
          (first | rw [c61b0] | (simp only [i64_w, i32_w]; rw [c61b0]) | skip)
          have H' := Aside0.mk H
          clear H
          go_wp2
          go_meet
          case rel => exact ⟨_, (a1), (a2), (by first | rfl | (simp; done) | (simp [*]; done)), (by first | rfl | (simp; done) | (simp [*]; done)), H', ⟨by first | omega | exact Nat.le_refl _⟩, ⟨by (with_reducible repeat (first | apply Kd.R_alloc | apply Kd.R_drewN | apply Kd.R_drew)); exact HO0.out⟩, ⟨by repeat (first | (with_reducible first | exact HK.out | apply Kept.alloc | apply Kept.drewN | apply Kept.drew) | exact HK.out)⟩, ⟨by repeat (first | (with_reducible first | exact HB.out | apply below_alloc | apply pw_below_drewN | apply below_drew1) | exact HB.out)⟩⟩
      case rest =>
        clear HC60
        try clear c1
        try clear p1
        try clear q1
        try clear hx1
        try clear c2
        try clear p2
        try clear q2
        try clear hx2
        try clear c3
        try clear c4
        try clear c5
        try clear p5
        try clear q5
        try clear hx5
        try clear hf5
        try clear c6
        try clear c6b0
        try clear c6b1
        try clear p6
        try clear c7
        try clear c7b0
        try clear c9
        try clear c9b0
        try clear c10
        try clear c10b0
        try clear c11
        try clear c11b0
        try clear c12
        try clear c12b0
        try clear c14
        try clear c14b0
        try clear p16
        try clear q16
        try clear hx16
        try clear p17
        try clear q17
        try clear hx17
        try clear c21
        try clear c21b0
        try clear c23
        try clear c23b0
        try clear c24
        try clear c24b0
        try clear c25
        try clear c25b0
        try clear c26
        try clear c26b0
        try clear c27
        try clear p27
        try clear q27
        try clear hx27
        try clear hf27
        try clear c28
        try clear p28
        try clear q28
        try clear hx28
        try clear hf28
        try clear c31
        try clear c32
        try clear c33
        try clear c33b0
        try clear c33b1
        try clear c34
        try clear c34b0
        try clear c35
        try clear c35b0
        try clear c36
        try clear c36b0
        try clear c38
        try clear c38b0
        try clear c39
        try clear c39b0
        try clear c40
        try clear c41
        try clear c41b0
        try clear c48
        try clear c48b0
        try clear c50
        try clear c50b0
        try clear c51
        try clear c51b0
        try clear c52
        try clear c52b0
        try clear c53
        try clear c53b0
        try clear c54
        try clear p54
        try clear q54
        try clear hx54
        try clear hf54
        try clear c55
        try clear p55
        try clear q55
        try clear hx55
        try clear hf55
        try clear c58
        try clear c59
        try clear c61
        try clear c61b0
        try clear hx162_0
        try clear hx162_1
        try clear hx162_2
        try clear hx162_3
        try clear hx162_4
        try clear hx162_5
        try clear hx162_6
        try clear hx163_0
        try clear hx163_1
        try clear hx163_2
        try clear hx163_3
        try clear hx163_4
        try clear hx163_5
        try clear hx163_6
        try clear hx165_0
        try clear hx165_1
        try clear hx165_2
        try clear hx165_3
        try clear hx165_4
        try clear hx165_5
        try clear hx165_6
        try clear hx166_0
        try clear hx166_1
        try clear hx166_2
        try clear hx166_3
        try clear hx166_4
        try clear hx166_5
        try clear hx166_6
        try clear hx169_0
        try clear hx169_1
        try clear hx169_2
        try clear hx169_3
        try clear hx169_4
        try clear hx169_5
        try clear hx169_6
        try clear hx170_0
        try clear hx170_1
        try clear hx170_2
        try clear hx170_3
        try clear hx170_4
        try clear hx170_5
        try clear hx170_6
        try clear hx172_0
        try clear hx172_1
        try clear hx172_2
        try clear hx172_3
        try clear hx172_4
        try clear hx172_5
        try clear hx172_6
        try clear hx173_0
        try clear hx173_1
        try clear hx173_2
        try clear hx173_3
        try clear hx173_4
        try clear hx173_5
        try clear hx173_6
        try clear hx27_0
        try clear hx27_1
        try clear hx27_2
        try clear hx27_3
        try clear hx27_4
        try clear hx27_5
        try clear hx27_6
        try clear hx28_0
        try clear hx28_1
        try clear hx28_2
        try clear hx28_3
        try clear hx28_4
        try clear hx28_5
        try clear hx28_6
        try clear hx54_0
        try clear hx54_1
        try clear hx54_2
        try clear hx54_3
        try clear hx54_4
        try clear hx54_5
        try clear hx54_6
        try clear hx55_0
        try clear hx55_1
        try clear hx55_2
        try clear hx55_3
        try clear hx55_4
        try clear hx55_5
        try clear hx55_6
        try clear p1
        try clear p16
        try clear p162
        try clear p163
        try clear p165
        try clear p166
        try clear p169
        try clear p17
        try clear p170
        try clear p172
        try clear p173
        try clear p2
        try clear p27
        try clear p28
        try clear p54
        try clear p55
        try clear p6
        try clear q1
        try clear q16
        try clear q162
        try clear q163
        try clear q165
        try clear q166
        try clear q169
        try clear q17
        try clear q170
        try clear q172
        try clear q173
        try clear q2
        try clear q27
        try clear q28
        try clear q54
        try clear q55
        obtain ⟨kq, x20_59, x21_59, rfl, rfl, HA, HJ59, HO_0, HK, HB⟩ := hcut
        cases kq with
        | zero => exact absurd HA.out (by simp [api_Cmd_40.j4])
        | succ kj59 =>
          have H := HA.out
          clear HA
          simp only [api_Cmd_40.j4] at H
          have H' := Aside0.mk H
          clear H
          go_wp2
          go_loopg [20, 21] kj59 (fun kq v20 v21 w' => ∃ (x20_2 : Int) (x21_2 : Int), v20 = .int .i64 x20_2 ∧ v21 = .int .i64 x21_2 ∧ Aside0 (api_Cmd_40.l4 kq l0 a1 a2 a3 a4 (wrap64 ((IntKind.u64.wrap (wrap64 (a1 + a3))) / 2)) (wrap64 ((wrap64 ((IntKind.u64.wrap (wrap64 (a1 + a3))) / 2)) + a2)) x20_2 x21_2 (wrap64 ((wrap64 ((wrap64 ((IntKind.u64.wrap (wrap64 (a1 + a3))) / 2)) + a2)) - 1)) = some r) ∧ Aside0 (kq ≤ kj59) ∧ Aside0 (Kd.R k32 32 w' w0.heap.size (fun k_ => (P0_ k_ ∨ w.heap.size ≤ k_)) u9000_ l0) ∧ Aside0 (Kept w w' (fun k_ => P0_ k_)) ∧ Aside0 (Below w0.heap.size w0 w'))
          case atStart => exact ⟨(x20_59), (x21_59), (by first | rfl | (simp; done) | (simp [*]; done)), (by first | rfl | (simp; done) | (simp [*]; done)), H', ⟨Nat.le_refl _⟩, ⟨by (with_reducible repeat (first | apply Kd.R_alloc | apply Kd.R_drewN | apply Kd.R_drew)); exact HO_0.out⟩, ⟨by repeat (first | (with_reducible first | exact HK.out | apply Kept.alloc | apply Kept.drewN | apply Kept.drew) | exact HK.out)⟩, ⟨by repeat (first | (with_reducible first | exact HB.out | apply below_alloc | apply pw_below_drewN | apply below_drew1) | exact HB.out)⟩⟩
          case round =>
            clear H'
            try clear c1
            try clear p1
            try clear q1
            try clear hx1
            try clear c2
            try clear p2
            try clear q2
            try clear hx2
            try clear c3
            try clear c4
            try clear c5
            try clear p5
            try clear q5
            try clear hx5
            try clear hf5
            try clear c6
            try clear c6b0
            try clear c6b1
            try clear p6
            try clear c7
            try clear c7b0
            try clear c9
            try clear c9b0
            try clear c10
            try clear c10b0
            try clear c11
            try clear c11b0
            try clear c12
            try clear c12b0
            try clear c14
            try clear c14b0
            try clear p16
            try clear q16
            try clear hx16
            try clear p17
            try clear q17
            try clear hx17
            try clear c21
            try clear c21b0
            try clear c23
            try clear c23b0
            try clear c24
            try clear c24b0
            try clear c25
            try clear c25b0
            try clear c26
            try clear c26b0
            try clear c27
            try clear p27
            try clear q27
            try clear hx27
            try clear hf27
            try clear c28
            try clear p28
            try clear q28
            try clear hx28
            try clear hf28
            try clear c31
            try clear c32
            try clear c33
            try clear c33b0
            try clear c33b1
            try clear c34
            try clear c34b0
            try clear c35
            try clear c35b0
            try clear c36
            try clear c36b0
            try clear c38
            try clear c38b0
            try clear c39
            try clear c39b0
            try clear c40
            try clear c41
            try clear c41b0
            try clear c48
            try clear c48b0
            try clear c50
            try clear c50b0
            try clear c51
            try clear c51b0
            try clear c52
            try clear c52b0
            try clear c53
            try clear c53b0
            try clear c54
            try clear p54
            try clear q54
            try clear hx54
            try clear hf54
            try clear c55
            try clear p55
            try clear q55
            try clear hx55
            try clear hf55
            try clear c58
            try clear c59
            try clear c61
            try clear c61b0
            try clear hx162_0
            try clear hx162_1
            try clear hx162_2
            try clear hx162_3
            try clear hx162_4
            try clear hx162_5
            try clear hx162_6
            try clear hx163_0
            try clear hx163_1
            try clear hx163_2
            try clear hx163_3
            try clear hx163_4
            try clear hx163_5
            try clear hx163_6
            try clear hx165_0
            try clear hx165_1
            try clear hx165_2
            try clear hx165_3
            try clear hx165_4
            try clear hx165_5
            try clear hx165_6
            try clear hx166_0
            try clear hx166_1
            try clear hx166_2
            try clear hx166_3
            try clear hx166_4
            try clear hx166_5
            try clear hx166_6
            try clear hx169_0
            try clear hx169_1
            try clear hx169_2
            try clear hx169_3
            try clear hx169_4
            try clear hx169_5
            try clear hx169_6
            try clear hx170_0
            try clear hx170_1
            try clear hx170_2
            try clear hx170_3
            try clear hx170_4
            try clear hx170_5
            try clear hx170_6
            try clear hx172_0
            try clear hx172_1
            try clear hx172_2
            try clear hx172_3
            try clear hx172_4
            try clear hx172_5
            try clear hx172_6
            try clear hx173_0
            try clear hx173_1
            try clear hx173_2
            try clear hx173_3
            try clear hx173_4
            try clear hx173_5
            try clear hx173_6
            try clear hx27_0
            try clear hx27_1
            try clear hx27_2
            try clear hx27_3
            try clear hx27_4
            try clear hx27_5
            try clear hx27_6
            try clear hx28_0
            try clear hx28_1
            try clear hx28_2
            try clear hx28_3
            try clear hx28_4
            try clear hx28_5
            try clear hx28_6
            try clear hx54_0
            try clear hx54_1
            try clear hx54_2
            try clear hx54_3
            try clear hx54_4
            try clear hx54_5
            try clear hx54_6
            try clear hx55_0
            try clear hx55_1
            try clear hx55_2
            try clear hx55_3
            try clear hx55_4
            try clear hx55_5
            try clear hx55_6
            try clear p1
            try clear p16
            try clear p162
            try clear p163
            try clear p165
            try clear p166
            try clear p169
            try clear p17
            try clear p170
            try clear p172
            try clear p173
            try clear p2
            try clear p27
            try clear p28
            try clear p5
            try clear p54
            try clear p55
            try clear p6
            try clear q1
            try clear q16
            try clear q162
            try clear q163
            try clear q165
            try clear q166
            try clear q169
            try clear q17
            try clear q170
            try clear q172
            try clear q173
            try clear q2
            try clear q27
            try clear q28
            try clear q5
            try clear q54
            try clear q55
            obtain ⟨x20_2, x21_2, rfl, rfl, HA, HK2, HO_0, HK, HB⟩ := hrel
            cases gk with
            | zero => exact absurd HA.out (by simp [api_Cmd_40.l4])
            | succ k2 =>
              have H := HA.out
              clear HA
              simp only [api_Cmd_40.l4] at H
              by_cases c62 : x20_2 < x21_2
              · as_aux_lemma =>
                rw [if_pos c62] at H
                have c62b0 : decide (x20_2 < x21_2) = true := decide_eq_true c62
                clear c62
                obtain ⟨ji63, hji63⟩ : ∃ j_ : Int, (wrap64 ((wrap64 ((wrap64 ((wrap64 ((IntKind.u64.wrap (wrap64 (a1 + a3))) / 2)) + a2)) - 1)) - (wrap64 ((IntKind.u64.wrap (wrap64 (x20_2 + x21_2))) / 2)))) = j_ := ⟨_, rfl⟩
                replace H : (if 0 ≤ (ji63) then (if (ji63) < (l0.length : Int) then (if 0 ≤ (wrap64 ((IntKind.u64.wrap (wrap64 (x20_2 + x21_2))) / 2)) then (if (wrap64 ((IntKind.u64.wrap (wrap64 (x20_2 + x21_2))) / 2)) < (l0.length : Int) then ((preds_byName.f ((rd_T32 l0 (ji63)).f0) ((rd_T32 l0 (ji63)).f1) ((rd_T32 l0 (ji63)).f2) ((rd_T32 l0 (ji63)).f3) ((rd_T32 l0 (ji63)).f4) ((rd_T32 l0 (ji63)).f5) ((rd_T32 l0 (ji63)).f6) ((rd_T32 l0 (wrap64 ((IntKind.u64.wrap (wrap64 (x20_2 + x21_2))) / 2))).f0) ((rd_T32 l0 (wrap64 ((IntKind.u64.wrap (wrap64 (x20_2 + x21_2))) / 2))).f1) ((rd_T32 l0 (wrap64 ((IntKind.u64.wrap (wrap64 (x20_2 + x21_2))) / 2))).f2) ((rd_T32 l0 (wrap64 ((IntKind.u64.wrap (wrap64 (x20_2 + x21_2))) / 2))).f3) ((rd_T32 l0 (wrap64 ((IntKind.u64.wrap (wrap64 (x20_2 + x21_2))) / 2))).f4) ((rd_T32 l0 (wrap64 ((IntKind.u64.wrap (wrap64 (x20_2 + x21_2))) / 2))).f5) ((rd_T32 l0 (wrap64 ((IntKind.u64.wrap (wrap64 (x20_2 + x21_2))) / 2))).f6)).bind fun t178 => (if t178 < 0 then (api_Cmd_40.l4 k2 l0 a1 a2 a3 a4 (wrap64 ((IntKind.u64.wrap (wrap64 (a1 + a3))) / 2)) (wrap64 ((wrap64 ((IntKind.u64.wrap (wrap64 (a1 + a3))) / 2)) + a2)) x20_2 (wrap64 ((IntKind.u64.wrap (wrap64 (x20_2 + x21_2))) / 2)) (wrap64 ((wrap64 ((wrap64 ((IntKind.u64.wrap (wrap64 (a1 + a3))) / 2)) + a2)) - 1))) else (api_Cmd_40.l4 k2 l0 a1 a2 a3 a4 (wrap64 ((IntKind.u64.wrap (wrap64 (a1 + a3))) / 2)) (wrap64 ((wrap64 ((IntKind.u64.wrap (wrap64 (a1 + a3))) / 2)) + a2)) (wrap64 ((wrap64 ((IntKind.u64.wrap (wrap64 (x20_2 + x21_2))) / 2)) + 1)) x21_2 (wrap64 ((wrap64 ((wrap64 ((IntKind.u64.wrap (wrap64 (a1 + a3))) / 2)) + a2)) - 1))))) else (none)) else (none)) else (none)) else (none)) = some r := by first | (rw [hji63] at H; exact H) | (simp only [hji63] at H ⊢; exact H)
                have hji63w : (IntKind.i64.wrap ((wrap64 ((wrap64 ((wrap64 ((IntKind.u64.wrap (wrap64 (a1 + a3))) / 2)) + a2)) - 1)) - (wrap64 ((IntKind.u64.wrap (wrap64 (x20_2 + x21_2))) / 2)))) = ji63 := (i64_w _).trans hji63
                by_cases c64 : 0 ≤ (ji63)
                · as_aux_lemma =>
                  rw [if_pos c64] at H
                  have c64b0 : decide (0 ≤ (ji63)) = true := decide_eq_true c64
                  clear c64
                  by_cases c65 : (ji63) < (l0.length : Int)
                  · as_aux_lemma =>
                    rw [if_pos c65] at H
                    have c65b0 : decide ((ji63) < (l0.length : Int)) = true := decide_eq_true c65
                    clear c65
                    obtain ⟨ji66, hji66⟩ : ∃ j_ : Int, (wrap64 ((IntKind.u64.wrap (wrap64 (x20_2 + x21_2))) / 2)) = j_ := ⟨_, rfl⟩
                    replace H : (if 0 ≤ (ji66) then (if (ji66) < (l0.length : Int) then ((preds_byName.f ((rd_T32 l0 (ji63)).f0) ((rd_T32 l0 (ji63)).f1) ((rd_T32 l0 (ji63)).f2) ((rd_T32 l0 (ji63)).f3) ((rd_T32 l0 (ji63)).f4) ((rd_T32 l0 (ji63)).f5) ((rd_T32 l0 (ji63)).f6) ((rd_T32 l0 (ji66)).f0) ((rd_T32 l0 (ji66)).f1) ((rd_T32 l0 (ji66)).f2) ((rd_T32 l0 (ji66)).f3) ((rd_T32 l0 (ji66)).f4) ((rd_T32 l0 (ji66)).f5) ((rd_T32 l0 (ji66)).f6)).bind fun t178 => (if t178 < 0 then (api_Cmd_40.l4 k2 l0 a1 a2 a3 a4 (wrap64 ((IntKind.u64.wrap (wrap64 (a1 + a3))) / 2)) (wrap64 ((wrap64 ((IntKind.u64.wrap (wrap64 (a1 + a3))) / 2)) + a2)) x20_2 ji66 (wrap64 ((wrap64 ((wrap64 ((IntKind.u64.wrap (wrap64 (a1 + a3))) / 2)) + a2)) - 1))) else (api_Cmd_40.l4 k2 l0 a1 a2 a3 a4 (wrap64 ((IntKind.u64.wrap (wrap64 (a1 + a3))) / 2)) (wrap64 ((wrap64 ((IntKind.u64.wrap (wrap64 (a1 + a3))) / 2)) + a2)) (wrap64 ((ji66) + 1)) x21_2 (wrap64 ((wrap64 ((wrap64 ((IntKind.u64.wrap (wrap64 (a1 + a3))) / 2)) + a2)) - 1))))) else (none)) else (none)) = some r := by first | (rw [hji66] at H; exact H) | (simp only [hji66] at H ⊢; exact H)
                    have hji66w : (IntKind.i64.wrap ((IntKind.u64.wrap (wrap64 (x20_2 + x21_2))) / 2)) = ji66 := (i64_w _).trans hji66
                    try simp only [hji66] at hji63w
                    by_cases c67 : 0 ≤ (ji66)
                    · as_aux_lemma =>
                      rw [if_pos c67] at H
                      have c67b0 : decide (0 ≤ (ji66)) = true := decide_eq_true c67
                      clear c67
                      by_cases c68 : (ji66) < (l0.length : Int)
                      · as_aux_lemma =>
                        rw [if_pos c68] at H
                        have c68b0 : decide ((ji66) < (l0.length : Int)) = true := decide_eq_true c68
                        clear c68
                        replace H := Option.bind_eq_some_iff.mp H
                        obtain ⟨t178, A690, H⟩ := H
                        replace H : (if t178 < 0 then (api_Cmd_40.l4 k2 l0 a1 a2 a3 a4 (wrap64 ((IntKind.u64.wrap (wrap64 (a1 + a3))) / 2)) (wrap64 ((wrap64 ((IntKind.u64.wrap (wrap64 (a1 + a3))) / 2)) + a2)) x20_2 ji66 (wrap64 ((wrap64 ((wrap64 ((IntKind.u64.wrap (wrap64 (a1 + a3))) / 2)) + a2)) - 1))) else (api_Cmd_40.l4 k2 l0 a1 a2 a3 a4 (wrap64 ((IntKind.u64.wrap (wrap64 (a1 + a3))) / 2)) (wrap64 ((wrap64 ((IntKind.u64.wrap (wrap64 (a1 + a3))) / 2)) + a2)) (wrap64 ((ji66) + 1)) x21_2 (wrap64 ((wrap64 ((wrap64 ((IntKind.u64.wrap (wrap64 (a1 + a3))) / 2)) + a2)) - 1)))) = some r := H
                        have A69 := Aside0.mk A690
                        clear A690
                        by_cases c70 : t178 < 0
                        · as_aux_lemma =>
                          rw [if_pos c70] at H
                          have c70b0 : decide (t178 < 0) = true := decide_eq_true c70
                          clear c70
                          have H' := Aside0.mk H
                          clear H
                          try go_wp2
                          have n0_ := Aside0.mk (Kd.R_drew HO_0.out)
                          have n1_ := Aside0.mk (Kept.drew HK.out)
                          have n2_ := Aside0.mk (below_drew1 HB.out)
                          clear HO_0
                          clear HK
                          clear HB
                          have HO_0 := n0_
                          have HK := n1_
                          have HB := n2_
                          clear n0_ n1_ n2_
                          obtain ⟨Ao72, co72, eo72⟩ := Kd.R_slice HO_0.out
                          (first | subst eo72 | (injection eo72 with f1_ f2_ f3_; have f4_ := f1_.symm; have f5_ := f3_.symm; clear f1_ f2_ f3_; subst f4_; subst f5_))
                          have p176 : 0 ≤ ((ji63) : Int) := of_decide_eq_true (by first | (with_reducible assumption) | assumption)
                          have q176 : (ji63) < (l0.length : Int) := of_decide_eq_true (by first | (with_reducible assumption) | assumption)
                          obtain ⟨ad176, e176, hx176_0, hx176_1, hx176_2, hx176_3, hx176_4, hx176_5, hx176_6⟩ := at_T32 (Kd.R_reads' HO_0.out).2.2 (ji63) p176 q176
                          cases e176
                          replace p176 := eq_true p176
                          replace q176 := eq_true q176
                          have p177 : 0 ≤ ((ji66) : Int) := of_decide_eq_true (by first | (with_reducible assumption) | assumption)
                          have q177 : (ji66) < (l0.length : Int) := of_decide_eq_true (by first | (with_reducible assumption) | assumption)
                          obtain ⟨ad177, e177, hx177_0, hx177_1, hx177_2, hx177_3, hx177_4, hx177_5, hx177_6⟩ := at_T32 (Kd.R_reads' HO_0.out).2.2 (ji66) p177 q177
                          obtain rfl : ad176 = ad177 := (by injection e177)
                          replace p177 := eq_true p177
                          replace q177 := eq_true q177
                          have mixed : Try.prog.follows .mixedOrders = true := by first | rfl | kernel_rfl
                          have aE : ∀ w, (isAgg 32).run Try.prog w = .ok true w := by intro w_; first | (go_simp; done) | (simp [isAgg, hu32]; done)
                          have zE0 : ∀ w, (Go.sizeOf 32).run Try.prog w = .ok k32.sz w := by intro w_; first | (go_simp; rfl) | (simp [Go.sizeOf, hu32]; rfl)
                          obtain ⟨k7_, hk7_⟩ : ∃ k, k = k32.sz := ⟨_, rfl⟩
                          have zE : ∀ w, (Go.sizeOf 32).run Try.prog w = .ok k7_ w := by rw [hk7_]; exact zE0
                          clear zE0 hu32
                          obtain ⟨c0_, ha0_, la0_⟩ := Kd.C_loads (Kd.R_reads' HO_0.out).2.2 z32 (ji63) (of_eq_true p176) (of_eq_true q176)
                          replace ha0_ : k32.K _ (rd_T32 l0 (ji63)) c0_ := ha0_
                          obtain rfl := k32_open ha0_
                          replace la0_ := la0_ Try.prog
                          rw [← hk7_] at la0_
                          obtain ⟨c1_, ha1_, la1_⟩ := Kd.C_loads (Kd.R_reads' HO_0.out).2.2 z32 (ji66) (of_eq_true p177) (of_eq_true q177)
                          replace ha1_ : k32.K _ (rd_T32 l0 (ji66)) c1_ := ha1_
                          obtain rfl := k32_open ha1_
                          replace la1_ := la1_ Try.prog
                          rw [← hk7_] at la1_
                          have HCG_ : ∀ p_ : Past wr.drew, Calls Try.prog 26 _ p_.now (fun e_ w_ => e_ = .returned _ ∧ ∃ q_ : Past wr.drew, w_ = q_.now) := fun p_ => (preds_byName.calls ((rd_T32 l0 (ji63)).f0) ((rd_T32 l0 (ji63)).f1) ((rd_T32 l0 (ji63)).f2) ((rd_T32 l0 (ji63)).f3) ((rd_T32 l0 (ji63)).f4) ((rd_T32 l0 (ji63)).f5) ((rd_T32 l0 (ji63)).f6) ((rd_T32 l0 (ji66)).f0) ((rd_T32 l0 (ji66)).f1) ((rd_T32 l0 (ji66)).f2) ((rd_T32 l0 (ji66)).f3) ((rd_T32 l0 (ji66)).f4) ((rd_T32 l0 (ji66)).f5) ((rd_T32 l0 (ji66)).f6) t178 p_.now A69.out).mono (fun e_ w_ h_ => ⟨h_.1, ⟨w_, below_step p_.le h_.2⟩, rfl⟩)
                          have eg_ : ∀ args w, (callFunc 26 args).run Try.prog w = .ok (.enter 26 args) w := fun args w => enters_ Try.func26 (by kernel_rfl) rfl args w
                          clear hk7_
                          refine wp_region_past (by assumption) (by kernel_rfl) ?_
                          repeat (quiet_step (first | exact HCG_ _))
                          refine wpQuiet_nil ?_
                          intro w73 hwq_
                          have hle_ : Below wr.drew.heap.size wr.drew w73 := by obtain ⟨p_, rfl⟩ := hwq_; exact p_.le
                          have n0_ := Aside0.mk (Kd.R_below HO_0.out hle_)
                          have n1_ := Aside0.mk (Kept.below HK.out hle_)
                          have n2_ := Aside0.mk (below_step HB.out hle_)
                          clear HO_0 HK HB hwq_ hle_ HCG_ eg_ aE zE mixed
                          clear la0_ ha0_ la1_ ha1_
                          have HO_0 := n0_
                          have HK := n1_
                          have HB := n2_
                          clear n0_ n1_ n2_
                          have hu32 := Try.underlying32
                          try go_wp2
                          go_roundg k2
                          case measure => have := HJ59.out; have := HK2.out; omega
                          case rel => exact ⟨(x20_2), (ji66), (by first | rfl | (simp; done) | (simp [*]; done)), (by first | rfl | (simp; done) | (simp only [← hji66] <;> (first | rfl | simp)) | (simp [*]; done)), H', ⟨by have := HJ59.out; have := HK2.out; omega⟩, ⟨by (with_reducible repeat (first | apply Kd.R_alloc | apply Kd.R_drewN | apply Kd.R_drew)); exact HO_0.out⟩, ⟨by repeat (first | (with_reducible first | exact HK.out | apply Kept.alloc | apply Kept.drewN | apply Kept.drew) | exact HK.out)⟩, ⟨by repeat (first | (with_reducible first | exact HB.out | apply below_alloc | apply pw_below_drewN | apply below_drew1) | exact HB.out)⟩⟩
                        · as_aux_lemma =>
                          rw [if_neg c70] at H
                          have c70b0 : decide (t178 < 0) = false := decide_eq_false c70
                          clear c70
                          have H' := Aside0.mk H
                          clear H
                          try go_wp2
                          have n0_ := Aside0.mk (Kd.R_drew HO_0.out)
                          have n1_ := Aside0.mk (Kept.drew HK.out)
                          have n2_ := Aside0.mk (below_drew1 HB.out)
                          clear HO_0
                          clear HK
                          clear HB
                          have HO_0 := n0_
                          have HK := n1_
                          have HB := n2_
                          clear n0_ n1_ n2_
                          obtain ⟨Ao75, co75, eo75⟩ := Kd.R_slice HO_0.out
                          (first | subst eo75 | (injection eo75 with f1_ f2_ f3_; have f4_ := f1_.symm; have f5_ := f3_.symm; clear f1_ f2_ f3_; subst f4_; subst f5_))
                          have p176 : 0 ≤ ((ji63) : Int) := of_decide_eq_true (by first | (with_reducible assumption) | assumption)
                          have q176 : (ji63) < (l0.length : Int) := of_decide_eq_true (by first | (with_reducible assumption) | assumption)
                          obtain ⟨ad176, e176, hx176_0, hx176_1, hx176_2, hx176_3, hx176_4, hx176_5, hx176_6⟩ := at_T32 (Kd.R_reads' HO_0.out).2.2 (ji63) p176 q176
                          cases e176
                          replace p176 := eq_true p176
                          replace q176 := eq_true q176
                          have p177 : 0 ≤ ((ji66) : Int) := of_decide_eq_true (by first | (with_reducible assumption) | assumption)
                          have q177 : (ji66) < (l0.length : Int) := of_decide_eq_true (by first | (with_reducible assumption) | assumption)
                          obtain ⟨ad177, e177, hx177_0, hx177_1, hx177_2, hx177_3, hx177_4, hx177_5, hx177_6⟩ := at_T32 (Kd.R_reads' HO_0.out).2.2 (ji66) p177 q177
                          obtain rfl : ad176 = ad177 := (by injection e177)
                          replace p177 := eq_true p177
                          replace q177 := eq_true q177
                          have mixed : Try.prog.follows .mixedOrders = true := by first | rfl | kernel_rfl
                          have aE : ∀ w, (isAgg 32).run Try.prog w = .ok true w := by intro w_; first | (go_simp; done) | (simp [isAgg, hu32]; done)
                          have zE0 : ∀ w, (Go.sizeOf 32).run Try.prog w = .ok k32.sz w := by intro w_; first | (go_simp; rfl) | (simp [Go.sizeOf, hu32]; rfl)
                          obtain ⟨k7_, hk7_⟩ : ∃ k, k = k32.sz := ⟨_, rfl⟩
                          have zE : ∀ w, (Go.sizeOf 32).run Try.prog w = .ok k7_ w := by rw [hk7_]; exact zE0
                          clear zE0 hu32
                          obtain ⟨c0_, ha0_, la0_⟩ := Kd.C_loads (Kd.R_reads' HO_0.out).2.2 z32 (ji63) (of_eq_true p176) (of_eq_true q176)
                          replace ha0_ : k32.K _ (rd_T32 l0 (ji63)) c0_ := ha0_
                          obtain rfl := k32_open ha0_
                          replace la0_ := la0_ Try.prog
                          rw [← hk7_] at la0_
                          obtain ⟨c1_, ha1_, la1_⟩ := Kd.C_loads (Kd.R_reads' HO_0.out).2.2 z32 (ji66) (of_eq_true p177) (of_eq_true q177)
                          replace ha1_ : k32.K _ (rd_T32 l0 (ji66)) c1_ := ha1_
                          obtain rfl := k32_open ha1_
                          replace la1_ := la1_ Try.prog
                          rw [← hk7_] at la1_
                          have HCG_ : ∀ p_ : Past wr.drew, Calls Try.prog 26 _ p_.now (fun e_ w_ => e_ = .returned _ ∧ ∃ q_ : Past wr.drew, w_ = q_.now) := fun p_ => (preds_byName.calls ((rd_T32 l0 (ji63)).f0) ((rd_T32 l0 (ji63)).f1) ((rd_T32 l0 (ji63)).f2) ((rd_T32 l0 (ji63)).f3) ((rd_T32 l0 (ji63)).f4) ((rd_T32 l0 (ji63)).f5) ((rd_T32 l0 (ji63)).f6) ((rd_T32 l0 (ji66)).f0) ((rd_T32 l0 (ji66)).f1) ((rd_T32 l0 (ji66)).f2) ((rd_T32 l0 (ji66)).f3) ((rd_T32 l0 (ji66)).f4) ((rd_T32 l0 (ji66)).f5) ((rd_T32 l0 (ji66)).f6) t178 p_.now A69.out).mono (fun e_ w_ h_ => ⟨h_.1, ⟨w_, below_step p_.le h_.2⟩, rfl⟩)
                          have eg_ : ∀ args w, (callFunc 26 args).run Try.prog w = .ok (.enter 26 args) w := fun args w => enters_ Try.func26 (by kernel_rfl) rfl args w
                          clear hk7_
                          refine wp_region_past (by assumption) (by kernel_rfl) ?_
                          repeat (quiet_step (first | exact HCG_ _))
                          refine wpQuiet_nil ?_
                          intro w76 hwq_
                          have hle_ : Below wr.drew.heap.size wr.drew w76 := by obtain ⟨p_, rfl⟩ := hwq_; exact p_.le
                          have n0_ := Aside0.mk (Kd.R_below HO_0.out hle_)
                          have n1_ := Aside0.mk (Kept.below HK.out hle_)
                          have n2_ := Aside0.mk (below_step HB.out hle_)
                          clear HO_0 HK HB hwq_ hle_ HCG_ eg_ aE zE mixed
                          clear la0_ ha0_ la1_ ha1_
                          have HO_0 := n0_
                          have HK := n1_
                          have HB := n2_
                          clear n0_ n1_ n2_
                          have hu32 := Try.underlying32
                          try go_wp2
                          go_roundg k2
                          case measure => have := HJ59.out; have := HK2.out; omega
                          case rel => exact ⟨(wrap64 ((ji66) + 1)), (x21_2), (by first | rfl | (simp; done) | (simp only [← hji66] <;> (first | rfl | simp)) | (simp [*]; done)), (by first | rfl | (simp; done) | (simp [*]; done)), H', ⟨by have := HJ59.out; have := HK2.out; omega⟩, ⟨by (with_reducible repeat (first | apply Kd.R_alloc | apply Kd.R_drewN | apply Kd.R_drew)); exact HO_0.out⟩, ⟨by repeat (first | (with_reducible first | exact HK.out | apply Kept.alloc | apply Kept.drewN | apply Kept.drew) | exact HK.out)⟩, ⟨by repeat (first | (with_reducible first | exact HB.out | apply below_alloc | apply pw_below_drewN | apply below_drew1) | exact HB.out)⟩⟩
                      · rw [if_neg c68] at H
                        exact absurd H (by simp)
                    · rw [if_neg c67] at H
                      exact absurd H (by simp)
                  · rw [if_neg c65] at H
                    exact absurd H (by simp)
                · rw [if_neg c64] at H
                  exact absurd H (by simp)
              · as_aux_lemma =>
                rw [if_neg c62] at H
                have c62b0 : decide (x20_2 < x21_2) = false := decide_eq_false c62
                clear c62
                have HC77 := Aside0.mk H
                clear H
                go_upto_region 39 with (fail)
                go_cut [185] (fun v185 wc => ∃ (kq : Nat) (x185_76 : Bool), v185 = .bool x185_76 ∧ Aside0 (api_Cmd_40.j6 kq l0 a1 a2 a3 a4 (wrap64 ((IntKind.u64.wrap (wrap64 (a1 + a3))) / 2)) x20_2 (wrap64 ((wrap64 ((wrap64 ((IntKind.u64.wrap (wrap64 (a1 + a3))) / 2)) + a2)) - x20_2)) x185_76 = some r) ∧ Aside0 (kq ≤ k2) ∧ Aside0 (Kd.R k32 32 wc w0.heap.size (fun k_ => (P0_ k_ ∨ w.heap.size ≤ k_)) u9000_ l0) ∧ Aside0 (Kept w wc (fun k_ => P0_ k_)) ∧ Aside0 (Below w0.heap.size w0 wc))
                case first =>
                  have H := HC77.out
                  clear HC77
                  by_cases c78 : x20_2 < a2
                  · rw [if_pos c78] at H
                    have c78b0 : decide (x20_2 < a2) = true := decide_eq_true c78
                    clear c78
                    (first | rw [c78b0] | (simp only [i64_w, i32_w]; rw [c78b0]) | skip)
                    have H' := Aside0.mk H
                    clear H
                    go_wp2
                    go_meet
                    case rel => exact ⟨_, (decide (a2 < (wrap64 ((wrap64 ((wrap64 ((IntKind.u64.wrap (wrap64 (a1 + a3))) / 2)) + a2)) - x20_2)))), (by first | rfl | (simp; done) | (simp [*]; done)), H', ⟨by have := HJ59.out; have := HK2.out; first | omega | exact Nat.le_refl _⟩, ⟨by (with_reducible repeat (first | apply Kd.R_alloc | apply Kd.R_drewN | apply Kd.R_drew)); exact HO_0.out⟩, ⟨by repeat (first | (with_reducible first | exact HK.out | apply Kept.alloc | apply Kept.drewN | apply Kept.drew) | exact HK.out)⟩, ⟨by repeat (first | (with_reducible first | exact HB.out | apply below_alloc | apply pw_below_drewN | apply below_drew1) | exact HB.out)⟩⟩
                  · rw [if_neg c78] at H
                    have c78b0 : decide (x20_2 < a2) = false := decide_eq_false c78
                    clear c78
                    (first | rw [c78b0] | (simp only [i64_w, i32_w]; rw [c78b0]) | skip)
                    have H' := Aside0.mk H
                    clear H
                    go_wp2
                    go_meet
                    case rel => exact ⟨_, (false), (by first | rfl | (simp; done) | (simp [*]; done)), H', ⟨by have := HJ59.out; have := HK2.out; first | omega | exact Nat.le_refl _⟩, ⟨by (with_reducible repeat (first | apply Kd.R_alloc | apply Kd.R_drewN | apply Kd.R_drew)); exact HO_0.out⟩, ⟨by repeat (first | (with_reducible first | exact HK.out | apply Kept.alloc | apply Kept.drewN | apply Kept.drew) | exact HK.out)⟩, ⟨by repeat (first | (with_reducible first | exact HB.out | apply below_alloc | apply pw_below_drewN | apply below_drew1) | exact HB.out)⟩⟩
                case rest =>
                  clear HC77
                  try clear p1
                  try clear q1
                  try clear hx1
                  try clear c2
                  try clear p2
                  try clear q2
                  try clear hx2
                  try clear c3
                  try clear c4
                  try clear c5
                  try clear p5
                  try clear q5
                  try clear hx5
                  try clear hf5
                  try clear c6
                  try clear p6
                  try clear c7
                  try clear p16
                  try clear q16
                  try clear hx16
                  try clear p17
                  try clear q17
                  try clear hx17
                  try clear c26
                  try clear p27
                  try clear q27
                  try clear hx27
                  try clear p28
                  try clear q28
                  try clear hx28
                  try clear c32
                  try clear c33
                  try clear c33b0
                  try clear c33b1
                  try clear c34
                  try clear c34b0
                  try clear c35
                  try clear c35b0
                  try clear c36
                  try clear c36b0
                  try clear c38
                  try clear c38b0
                  try clear c39
                  try clear c39b0
                  try clear c40
                  try clear c41
                  try clear c41b0
                  try clear c48
                  try clear c48b0
                  try clear c50
                  try clear c50b0
                  try clear c51
                  try clear c51b0
                  try clear c52
                  try clear c52b0
                  try clear c53
                  try clear c53b0
                  try clear c54
                  try clear p54
                  try clear q54
                  try clear hx54
                  try clear hf54
                  try clear c55
                  try clear p55
                  try clear q55
                  try clear hx55
                  try clear hf55
                  try clear c58
                  try clear c59
                  try clear c61
                  try clear c61b0
                  try clear c62
                  try clear c62b0
                  try clear c64
                  try clear c64b0
                  try clear p64
                  try clear c65
                  try clear c65b0
                  try clear c67
                  try clear c67b0
                  try clear c68
                  try clear c68b0
                  try clear c70
                  try clear c70b0
                  try clear c78
                  try clear c78b0
                  try clear hx162_0
                  try clear hx162_1
                  try clear hx162_2
                  try clear hx162_3
                  try clear hx162_4
                  try clear hx162_5
                  try clear hx162_6
                  try clear hx163_0
                  try clear hx163_1
                  try clear hx163_2
                  try clear hx163_3
                  try clear hx163_4
                  try clear hx163_5
                  try clear hx163_6
                  try clear hx165_0
                  try clear hx165_1
                  try clear hx165_2
                  try clear hx165_3
                  try clear hx165_4
                  try clear hx165_5
                  try clear hx165_6
                  try clear hx166_0
                  try clear hx166_1
                  try clear hx166_2
                  try clear hx166_3
                  try clear hx166_4
                  try clear hx166_5
                  try clear hx166_6
                  try clear hx169_0
                  try clear hx169_1
                  try clear hx169_2
                  try clear hx169_3
                  try clear hx169_4
                  try clear hx169_5
                  try clear hx169_6
                  try clear hx170_0
                  try clear hx170_1
                  try clear hx170_2
                  try clear hx170_3
                  try clear hx170_4
                  try clear hx170_5
                  try clear hx170_6
                  try clear hx172_0
                  try clear hx172_1
                  try clear hx172_2
                  try clear hx172_3
                  try clear hx172_4
                  try clear hx172_5
                  try clear hx172_6
                  try clear hx173_0
                  try clear hx173_1
                  try clear hx173_2
                  try clear hx173_3
                  try clear hx173_4
                  try clear hx173_5
                  try clear hx173_6
                  try clear hx176_0
                  try clear hx176_1
                  try clear hx176_2
                  try clear hx176_3
                  try clear hx176_4
                  try clear hx176_5
                  try clear hx176_6
                  try clear hx177_0
                  try clear hx177_1
                  try clear hx177_2
                  try clear hx177_3
                  try clear hx177_4
                  try clear hx177_5
                  try clear hx177_6
                  try clear hx27_0
                  try clear hx27_1
                  try clear hx27_2
                  try clear hx27_3
                  try clear hx27_4
                  try clear hx27_5
                  try clear hx27_6
                  try clear hx28_0
                  try clear hx28_1
                  try clear hx28_2
                  try clear hx28_3
                  try clear hx28_4
                  try clear hx28_5
                  try clear hx28_6
                  try clear hx54_0
                  try clear hx54_1
                  try clear hx54_2
                  try clear hx54_3
                  try clear hx54_4
                  try clear hx54_5
                  try clear hx54_6
                  try clear hx55_0
                  try clear hx55_1
                  try clear hx55_2
                  try clear hx55_3
                  try clear hx55_4
                  try clear hx55_5
                  try clear hx55_6
                  try clear p1
                  try clear p16
                  try clear p162
                  try clear p163
                  try clear p165
                  try clear p166
                  try clear p169
                  try clear p17
                  try clear p170
                  try clear p172
                  try clear p173
                  try clear p176
                  try clear p177
                  try clear p2
                  try clear p27
                  try clear p28
                  try clear p5
                  try clear p54
                  try clear p55
                  try clear p6
                  try clear q1
                  try clear q16
                  try clear q162
                  try clear q163
                  try clear q165
                  try clear q166
                  try clear q169
                  try clear q17
                  try clear q170
                  try clear q172
                  try clear q173
                  try clear q176
                  try clear q177
                  try clear q2
                  try clear q27
                  try clear q28
                  try clear q5
                  try clear q54
                  try clear q55
                  obtain ⟨kq, x185_76, rfl, HA, HJ76, HO_0, HK, HB⟩ := hcut
                  cases kq with
                  | zero => exact absurd HA.out (by simp [api_Cmd_40.j6])
                  | succ kj76 =>
                    have H := HA.out
                    clear HA
                    simp only [api_Cmd_40.j6] at H
                    have HC79 := Aside0.mk H
                    clear H
                    go_upto_if 185 with (fail)
                    go_cut [] (fun wc => ∃ (kq : Nat) (x0_78 : List (S32)), Aside0 (api_Cmd_40.j7 kq x0_78 a1 a3 a4 (wrap64 ((IntKind.u64.wrap (wrap64 (a1 + a3))) / 2)) x20_2 (wrap64 ((wrap64 ((wrap64 ((IntKind.u64.wrap (wrap64 (a1 + a3))) / 2)) + a2)) - x20_2)) = some r) ∧ Aside0 (kq ≤ kj76) ∧ Aside0 (Kd.R k32 32 wc w0.heap.size (fun k_ => (P0_ k_ ∨ w.heap.size ≤ k_)) u9000_ x0_78) ∧ Aside0 (Kept w wc (fun k_ => P0_ k_)) ∧ Aside0 (Below w0.heap.size w0 wc))
                    case first =>
                      have H := HC79.out
                      clear HC79
                      by_cases c80 : x185_76 = true
                      · subst c80
                        have H1 : ((api_Cmd_46.f kj76 l0 x20_2 a2 (wrap64 ((wrap64 ((wrap64 ((IntKind.u64.wrap (wrap64 (a1 + a3))) / 2)) + a2)) - x20_2)) a4).bind fun t179 => (api_Cmd_40.j7 kj76 t179 a1 a3 a4 (wrap64 ((IntKind.u64.wrap (wrap64 (a1 + a3))) / 2)) x20_2 (wrap64 ((wrap64 ((wrap64 ((IntKind.u64.wrap (wrap64 (a1 + a3))) / 2)) + a2)) - x20_2)))) = some r := by rw [if_pos rfl] at H; exact H
                        clear H
                        have H := H1
                        clear H1
                        replace H := Option.bind_eq_some_iff.mp H
                        obtain ⟨t179, A810, H⟩ := H
                        replace H : (api_Cmd_40.j7 kj76 t179 a1 a3 a4 (wrap64 ((IntKind.u64.wrap (wrap64 (a1 + a3))) / 2)) x20_2 (wrap64 ((wrap64 ((wrap64 ((IntKind.u64.wrap (wrap64 (a1 + a3))) / 2)) + a2)) - x20_2))) = some r := H
                        have A81 := Aside0.mk A810
                        clear A810
                        have H' := Aside0.mk H
                        clear H
                        obtain ⟨Ao82, co82, eo82⟩ := Kd.R_slice HO_0.out
                        subst eo82
                        go_wp2_with (first | ((with_reducible refine gate_callee (f := 46) rfl ?_); refine goesL_ (some 191) rfl rfl Try.func46 (by kernel_rfl) rfl #[.slice Ao82 l0.length co82, .int .i64 x20_2, .int .i64 a2, .int .i64 (wrap64 ((wrap64 ((wrap64 ((IntKind.u64.wrap (wrap64 (a1 + a3))) / 2)) + a2)) - x20_2)), .func (.func 26) #[] #[]] rfl (by (try simp only [List.map_toArray, List.map_cons, List.map_nil]); first | done | rfl | (simp only [List.length_drop, List.length_take]; rfl)) ?_; (with_reducible refine (api_Cmd_46.calls kj76 (fun k_ => some k_ = (.slice Ao82 l0.length co82 : Value).ownBlock) (.slice Ao82 l0.length co82) l0 x20_2 a2 (wrap64 ((wrap64 ((wrap64 ((IntKind.u64.wrap (wrap64 (a1 + a3))) / 2)) + a2)) - x20_2)) a4 t179 w0 _ ?side1 ?side2 A81.out).mono ?_); (case side1 => repeat (first | (with_reducible first | exact HB.out | apply below_alloc | apply pw_below_drewN | apply below_drew1) | exact HB.out)); (case side2 => exact Kd.R_tight rfl HO_0.out); rintro e w83 ⟨rfl, hy0, hb, hkp⟩; refine ⟨_, rfl, ?_⟩; have n0_ := Aside0.mk (Kd.R_reok rfl hy0 (fun k_ e_ => HO_0.out.1 k_ e_)); have n1_ := Aside0.mk (Kept.then_ (S := (fun k_ => P0_ k_)) (by repeat (first | (with_reducible first | exact HK.out | apply Kept.alloc | apply Kept.drewN | apply Kept.drew) | exact HK.out)) hkp (fun k_ hs_ => (fun e_ => (HO_0.out.1 k_ e_.symm)) hs_)); have n2_ := Aside0.mk (hb); clear HO_0; clear HK; clear HB; have HO_0 := n0_; have HK := n1_; have HB := n2_; clear n0_ n1_ n2_; (try clear hb); (try clear hkp); (try clear hy0)))
                        go_meet
                        case rel => exact ⟨_, (t179), H', ⟨by have := HJ59.out; have := HK2.out; have := HJ76.out; first | omega | exact Nat.le_refl _⟩, ⟨by (with_reducible repeat (first | apply Kd.R_alloc | apply Kd.R_drewN | apply Kd.R_drew)); exact HO_0.out⟩, ⟨by repeat (first | (with_reducible first | exact HK.out | apply Kept.alloc | apply Kept.drewN | apply Kept.drew) | exact HK.out)⟩, ⟨by repeat (first | (with_reducible first | exact HB.out | apply below_alloc | apply pw_below_drewN | apply below_drew1) | exact HB.out)⟩⟩
                      · replace c80 := Bool.eq_false_iff.mpr c80
                        subst c80
                        have H1 : (api_Cmd_40.j7 kj76 l0 a1 a3 a4 (wrap64 ((IntKind.u64.wrap (wrap64 (a1 + a3))) / 2)) x20_2 (wrap64 ((wrap64 ((wrap64 ((IntKind.u64.wrap (wrap64 (a1 + a3))) / 2)) + a2)) - x20_2))) = some r := by rw [if_neg (show ¬ (false = true) by decide)] at H; exact H
                        clear H
                        have H := H1
                        clear H1
                        have H' := Aside0.mk H
                        clear H
                        go_wp2
                        go_meet
                        case rel => exact ⟨_, (l0), H', ⟨by have := HJ59.out; have := HK2.out; have := HJ76.out; first | omega | exact Nat.le_refl _⟩, ⟨by (with_reducible repeat (first | apply Kd.R_alloc | apply Kd.R_drewN | apply Kd.R_drew)); exact HO_0.out⟩, ⟨by repeat (first | (with_reducible first | exact HK.out | apply Kept.alloc | apply Kept.drewN | apply Kept.drew) | exact HK.out)⟩, ⟨by repeat (first | (with_reducible first | exact HB.out | apply below_alloc | apply pw_below_drewN | apply below_drew1) | exact HB.out)⟩⟩
                    case rest =>
                      clear HC79
                      try clear p1
                      try clear q1
                      try clear hx1
                      try clear c2
                      try clear p2
                      try clear q2
                      try clear hx2
                      try clear c3
                      try clear c4
                      try clear c5
                      try clear p5
                      try clear q5
                      try clear hx5
                      try clear hf5
                      try clear c6
                      try clear p6
                      try clear c7
                      try clear c8
                      try clear p16
                      try clear q16
                      try clear hx16
                      try clear p17
                      try clear q17
                      try clear hx17
                      try clear c26
                      try clear p27
                      try clear q27
                      try clear hx27
                      try clear p28
                      try clear q28
                      try clear hx28
                      try clear c32
                      try clear c33
                      try clear c33b0
                      try clear c33b1
                      try clear c34
                      try clear c34b0
                      try clear c35
                      try clear c35b0
                      try clear c36
                      try clear c36b0
                      try clear c38
                      try clear c38b0
                      try clear c39
                      try clear c39b0
                      try clear c40
                      try clear c41
                      try clear c41b0
                      try clear c46
                      try clear c48
                      try clear c48b0
                      try clear c50
                      try clear c50b0
                      try clear c51
                      try clear c51b0
                      try clear c52
                      try clear c52b0
                      try clear c53
                      try clear c53b0
                      try clear c54
                      try clear p54
                      try clear q54
                      try clear hx54
                      try clear hf54
                      try clear c55
                      try clear p55
                      try clear q55
                      try clear hx55
                      try clear hf55
                      try clear c58
                      try clear c59
                      try clear c61
                      try clear c61b0
                      try clear c62
                      try clear c62b0
                      try clear c64
                      try clear c64b0
                      try clear p64
                      try clear c65
                      try clear c65b0
                      try clear c67
                      try clear c67b0
                      try clear c68
                      try clear c68b0
                      try clear c70
                      try clear c70b0
                      try clear c78
                      try clear c78b0
                      try clear c80
                      try clear hx162_0
                      try clear hx162_1
                      try clear hx162_2
                      try clear hx162_3
                      try clear hx162_4
                      try clear hx162_5
                      try clear hx162_6
                      try clear hx163_0
                      try clear hx163_1
                      try clear hx163_2
                      try clear hx163_3
                      try clear hx163_4
                      try clear hx163_5
                      try clear hx163_6
                      try clear hx165_0
                      try clear hx165_1
                      try clear hx165_2
                      try clear hx165_3
                      try clear hx165_4
                      try clear hx165_5
                      try clear hx165_6
                      try clear hx166_0
                      try clear hx166_1
                      try clear hx166_2
                      try clear hx166_3
                      try clear hx166_4
                      try clear hx166_5
                      try clear hx166_6
                      try clear hx169_0
                      try clear hx169_1
                      try clear hx169_2
                      try clear hx169_3
                      try clear hx169_4
                      try clear hx169_5
                      try clear hx169_6
                      try clear hx170_0
                      try clear hx170_1
                      try clear hx170_2
                      try clear hx170_3
                      try clear hx170_4
                      try clear hx170_5
                      try clear hx170_6
                      try clear hx172_0
                      try clear hx172_1
                      try clear hx172_2
                      try clear hx172_3
                      try clear hx172_4
                      try clear hx172_5
                      try clear hx172_6
                      try clear hx173_0
                      try clear hx173_1
                      try clear hx173_2
                      try clear hx173_3
                      try clear hx173_4
                      try clear hx173_5
                      try clear hx173_6
                      try clear hx176_0
                      try clear hx176_1
                      try clear hx176_2
                      try clear hx176_3
                      try clear hx176_4
                      try clear hx176_5
                      try clear hx176_6
                      try clear hx177_0
                      try clear hx177_1
                      try clear hx177_2
                      try clear hx177_3
                      try clear hx177_4
                      try clear hx177_5
                      try clear hx177_6
                      try clear hx27_0
                      try clear hx27_1
                      try clear hx27_2
                      try clear hx27_3
                      try clear hx27_4
                      try clear hx27_5
                      try clear hx27_6
                      try clear hx28_0
                      try clear hx28_1
                      try clear hx28_2
                      try clear hx28_3
                      try clear hx28_4
                      try clear hx28_5
                      try clear hx28_6
                      try clear hx54_0
                      try clear hx54_1
                      try clear hx54_2
                      try clear hx54_3
                      try clear hx54_4
                      try clear hx54_5
                      try clear hx54_6
                      try clear hx55_0
                      try clear hx55_1
                      try clear hx55_2
                      try clear hx55_3
                      try clear hx55_4
                      try clear hx55_5
                      try clear hx55_6
                      try clear p1
                      try clear p16
                      try clear p162
                      try clear p163
                      try clear p165
                      try clear p166
                      try clear p169
                      try clear p17
                      try clear p170
                      try clear p172
                      try clear p173
                      try clear p176
                      try clear p177
                      try clear p2
                      try clear p27
                      try clear p28
                      try clear p5
                      try clear p54
                      try clear p55
                      try clear p6
                      try clear p64
                      try clear q1
                      try clear q16
                      try clear q162
                      try clear q163
                      try clear q165
                      try clear q166
                      try clear q169
                      try clear q17
                      try clear q170
                      try clear q172
                      try clear q173
                      try clear q176
                      try clear q177
                      try clear q2
                      try clear q27
                      try clear q28
                      try clear q5
                      try clear q54
                      try clear q55
                      obtain ⟨kq, x0_78, HA, HJ78, HO_0, HK, HB⟩ := hcut
                      cases kq with
                      | zero => exact absurd HA.out (by simp [api_Cmd_40.j7])
                      | succ kj78 =>
                        have H := HA.out
                        clear HA
                        simp only [api_Cmd_40.j7] at H
                        have HC84 := Aside0.mk H
                        clear H
                        go_upto_region 41 with (fail)
                        go_cut [199] (fun v199 wc => ∃ (kq : Nat) (x199_83 : Bool), v199 = .bool x199_83 ∧ Aside0 (api_Cmd_40.j8 kq x0_78 a1 a3 a4 (wrap64 ((IntKind.u64.wrap (wrap64 (a1 + a3))) / 2)) x20_2 (wrap64 ((wrap64 ((wrap64 ((IntKind.u64.wrap (wrap64 (a1 + a3))) / 2)) + a2)) - x20_2)) x199_83 = some r) ∧ Aside0 (kq ≤ kj78) ∧ Aside0 (Kd.R k32 32 wc w0.heap.size (fun k_ => (P0_ k_ ∨ w.heap.size ≤ k_)) u9000_ x0_78) ∧ Aside0 (Kept w wc (fun k_ => P0_ k_)) ∧ Aside0 (Below w0.heap.size w0 wc))
                        case first =>
                          have H := HC84.out
                          clear HC84
                          by_cases c85 : a1 < x20_2
                          · rw [if_pos c85] at H
                            have c85b0 : decide (a1 < x20_2) = true := decide_eq_true c85
                            clear c85
                            (first | rw [c85b0] | (simp only [i64_w, i32_w]; rw [c85b0]) | skip)
                            have H' := Aside0.mk H
                            clear H
                            go_wp2
                            go_meet
                            case rel => exact ⟨_, (decide (x20_2 < (wrap64 ((IntKind.u64.wrap (wrap64 (a1 + a3))) / 2)))), (by first | rfl | (simp; done) | (simp [*]; done)), H', ⟨by have := HJ59.out; have := HK2.out; have := HJ76.out; have := HJ78.out; first | omega | exact Nat.le_refl _⟩, ⟨by (with_reducible repeat (first | apply Kd.R_alloc | apply Kd.R_drewN | apply Kd.R_drew)); exact HO_0.out⟩, ⟨by repeat (first | (with_reducible first | exact HK.out | apply Kept.alloc | apply Kept.drewN | apply Kept.drew) | exact HK.out)⟩, ⟨by repeat (first | (with_reducible first | exact HB.out | apply below_alloc | apply pw_below_drewN | apply below_drew1) | exact HB.out)⟩⟩
                          · rw [if_neg c85] at H
                            have c85b0 : decide (a1 < x20_2) = false := decide_eq_false c85
                            clear c85
                            (first | rw [c85b0] | (simp only [i64_w, i32_w]; rw [c85b0]) | skip)
                            have H' := Aside0.mk H
                            clear H
                            go_wp2
                            go_meet
                            case rel => exact ⟨_, (false), (by first | rfl | (simp; done) | (simp [*]; done)), H', ⟨by have := HJ59.out; have := HK2.out; have := HJ76.out; have := HJ78.out; first | omega | exact Nat.le_refl _⟩, ⟨by (with_reducible repeat (first | apply Kd.R_alloc | apply Kd.R_drewN | apply Kd.R_drew)); exact HO_0.out⟩, ⟨by repeat (first | (with_reducible first | exact HK.out | apply Kept.alloc | apply Kept.drewN | apply Kept.drew) | exact HK.out)⟩, ⟨by repeat (first | (with_reducible first | exact HB.out | apply below_alloc | apply pw_below_drewN | apply below_drew1) | exact HB.out)⟩⟩
                        case rest =>
                          clear HC84
                          try clear p1
                          try clear q1
                          try clear hx1
                          try clear c2
                          try clear p2
                          try clear q2
                          try clear hx2
                          try clear c3
                          try clear c4
                          try clear c5
                          try clear p5
                          try clear q5
                          try clear hx5
                          try clear hf5
                          try clear c6
                          try clear p6
                          try clear c7
                          try clear c8
                          try clear p16
                          try clear q16
                          try clear hx16
                          try clear p17
                          try clear q17
                          try clear hx17
                          try clear c26
                          try clear p27
                          try clear q27
                          try clear hx27
                          try clear p28
                          try clear q28
                          try clear hx28
                          try clear c32
                          try clear c33
                          try clear c33b0
                          try clear c33b1
                          try clear c34
                          try clear c34b0
                          try clear c35
                          try clear c35b0
                          try clear c36
                          try clear c36b0
                          try clear c38
                          try clear c38b0
                          try clear c39
                          try clear c39b0
                          try clear c40
                          try clear c41
                          try clear c41b0
                          try clear c46
                          try clear c48
                          try clear c48b0
                          try clear c50
                          try clear c50b0
                          try clear c51
                          try clear c51b0
                          try clear c52
                          try clear c52b0
                          try clear c53
                          try clear c53b0
                          try clear c54
                          try clear p54
                          try clear q54
                          try clear hx54
                          try clear hf54
                          try clear c55
                          try clear p55
                          try clear q55
                          try clear hx55
                          try clear hf55
                          try clear c58
                          try clear c59
                          try clear c61
                          try clear c61b0
                          try clear c62
                          try clear c62b0
                          try clear c64
                          try clear c64b0
                          try clear p64
                          try clear c65
                          try clear c65b0
                          try clear c67
                          try clear c67b0
                          try clear c68
                          try clear c68b0
                          try clear c70
                          try clear c70b0
                          try clear c78
                          try clear c78b0
                          try clear c80
                          try clear c85
                          try clear c85b0
                          try clear hx162_0
                          try clear hx162_1
                          try clear hx162_2
                          try clear hx162_3
                          try clear hx162_4
                          try clear hx162_5
                          try clear hx162_6
                          try clear hx163_0
                          try clear hx163_1
                          try clear hx163_2
                          try clear hx163_3
                          try clear hx163_4
                          try clear hx163_5
                          try clear hx163_6
                          try clear hx165_0
                          try clear hx165_1
                          try clear hx165_2
                          try clear hx165_3
                          try clear hx165_4
                          try clear hx165_5
                          try clear hx165_6
                          try clear hx166_0
                          try clear hx166_1
                          try clear hx166_2
                          try clear hx166_3
                          try clear hx166_4
                          try clear hx166_5
                          try clear hx166_6
                          try clear hx169_0
                          try clear hx169_1
                          try clear hx169_2
                          try clear hx169_3
                          try clear hx169_4
                          try clear hx169_5
                          try clear hx169_6
                          try clear hx170_0
                          try clear hx170_1
                          try clear hx170_2
                          try clear hx170_3
                          try clear hx170_4
                          try clear hx170_5
                          try clear hx170_6
                          try clear hx172_0
                          try clear hx172_1
                          try clear hx172_2
                          try clear hx172_3
                          try clear hx172_4
                          try clear hx172_5
                          try clear hx172_6
                          try clear hx173_0
                          try clear hx173_1
                          try clear hx173_2
                          try clear hx173_3
                          try clear hx173_4
                          try clear hx173_5
                          try clear hx173_6
                          try clear hx176_0
                          try clear hx176_1
                          try clear hx176_2
                          try clear hx176_3
                          try clear hx176_4
                          try clear hx176_5
                          try clear hx176_6
                          try clear hx177_0
                          try clear hx177_1
                          try clear hx177_2
                          try clear hx177_3
                          try clear hx177_4
                          try clear hx177_5
                          try clear hx177_6
                          try clear hx27_0
                          try clear hx27_1
                          try clear hx27_2
                          try clear hx27_3
                          try clear hx27_4
                          try clear hx27_5
                          try clear hx27_6
                          try clear hx28_0
                          try clear hx28_1
                          try clear hx28_2
                          try clear hx28_3
                          try clear hx28_4
                          try clear hx28_5
                          try clear hx28_6
                          try clear hx54_0
                          try clear hx54_1
                          try clear hx54_2
                          try clear hx54_3
                          try clear hx54_4
                          try clear hx54_5
                          try clear hx54_6
                          try clear hx55_0
                          try clear hx55_1
                          try clear hx55_2
                          try clear hx55_3
                          try clear hx55_4
                          try clear hx55_5
                          try clear hx55_6
                          try clear p1
                          try clear p16
                          try clear p162
                          try clear p163
                          try clear p165
                          try clear p166
                          try clear p169
                          try clear p17
                          try clear p170
                          try clear p172
                          try clear p173
                          try clear p176
                          try clear p177
                          try clear p2
                          try clear p27
                          try clear p28
                          try clear p5
                          try clear p54
                          try clear p55
                          try clear p6
                          try clear p64
                          try clear q1
                          try clear q16
                          try clear q162
                          try clear q163
                          try clear q165
                          try clear q166
                          try clear q169
                          try clear q17
                          try clear q170
                          try clear q172
                          try clear q173
                          try clear q176
                          try clear q177
                          try clear q2
                          try clear q27
                          try clear q28
                          try clear q5
                          try clear q54
                          try clear q55
                          obtain ⟨kq, x199_83, rfl, HA, HJ83, HO_0, HK, HB⟩ := hcut
                          cases kq with
                          | zero => exact absurd HA.out (by simp [api_Cmd_40.j8])
                          | succ kj83 =>
                            have H := HA.out
                            clear HA
                            simp only [api_Cmd_40.j8] at H
                            by_cases c86 : x199_83 = true
                            · subst c86
                              have H1 : ((api_Cmd_40.f kj83 x0_78 a1 x20_2 (wrap64 ((IntKind.u64.wrap (wrap64 (a1 + a3))) / 2)) a4).bind fun t180 => (if (wrap64 ((IntKind.u64.wrap (wrap64 (a1 + a3))) / 2)) < (wrap64 ((wrap64 ((wrap64 ((IntKind.u64.wrap (wrap64 (a1 + a3))) / 2)) + a2)) - x20_2)) then (if (wrap64 ((wrap64 ((wrap64 ((IntKind.u64.wrap (wrap64 (a1 + a3))) / 2)) + a2)) - x20_2)) < a3 then ((api_Cmd_40.f kj83 t180 (wrap64 ((IntKind.u64.wrap (wrap64 (a1 + a3))) / 2)) (wrap64 ((wrap64 ((wrap64 ((IntKind.u64.wrap (wrap64 (a1 + a3))) / 2)) + a2)) - x20_2)) a3 a4).bind fun t181 => (some t181)) else (some t180)) else (some t180))) = some r := by rw [if_pos rfl] at H; exact H
                              clear H
                              have H := H1
                              clear H1
                              replace H := Option.bind_eq_some_iff.mp H
                              obtain ⟨t180, A870, H⟩ := H
                              replace H : (if (wrap64 ((IntKind.u64.wrap (wrap64 (a1 + a3))) / 2)) < (wrap64 ((wrap64 ((wrap64 ((IntKind.u64.wrap (wrap64 (a1 + a3))) / 2)) + a2)) - x20_2)) then (if (wrap64 ((wrap64 ((wrap64 ((IntKind.u64.wrap (wrap64 (a1 + a3))) / 2)) + a2)) - x20_2)) < a3 then ((api_Cmd_40.f kj83 t180 (wrap64 ((IntKind.u64.wrap (wrap64 (a1 + a3))) / 2)) (wrap64 ((wrap64 ((wrap64 ((IntKind.u64.wrap (wrap64 (a1 + a3))) / 2)) + a2)) - x20_2)) a3 a4).bind fun t181 => (some t181)) else (some t180)) else (some t180)) = some r := H
                              have A87 := Aside0.mk A870
                              clear A870
                              by_cases c88 : (wrap64 ((IntKind.u64.wrap (wrap64 (a1 + a3))) / 2)) < (wrap64 ((wrap64 ((wrap64 ((IntKind.u64.wrap (wrap64 (a1 + a3))) / 2)) + a2)) - x20_2))
                              · rw [if_pos c88] at H
                                have c88b0 : decide ((wrap64 ((IntKind.u64.wrap (wrap64 (a1 + a3))) / 2)) < (wrap64 ((wrap64 ((wrap64 ((IntKind.u64.wrap (wrap64 (a1 + a3))) / 2)) + a2)) - x20_2))) = true := decide_eq_true c88
                                clear c88
                                by_cases c89 : (wrap64 ((wrap64 ((wrap64 ((IntKind.u64.wrap (wrap64 (a1 + a3))) / 2)) + a2)) - x20_2)) < a3
                                · rw [if_pos c89] at H
                                  have c89b0 : decide ((wrap64 ((wrap64 ((wrap64 ((IntKind.u64.wrap (wrap64 (a1 + a3))) / 2)) + a2)) - x20_2)) < a3) = true := decide_eq_true c89
                                  clear c89
                                  replace H := Option.bind_eq_some_iff.mp H
                                  obtain ⟨t181, A900, H⟩ := H
                                  replace H : (some t181) = some r := H
                                  have A90 := Aside0.mk A900
                                  clear A900
                                  obtain rfl := Option.some.inj H
                                  obtain ⟨Ao91, co91, eo91⟩ := Kd.R_slice HO_0.out
                                  subst eo91
                                  go_wp2_with (first | ((with_reducible refine gate_callee (f := 40) rfl ?_); refine goesL_ (some 205) rfl rfl Try.func40 (by kernel_rfl) rfl #[.slice Ao91 x0_78.length co91, .int .i64 a1, .int .i64 x20_2, .int .i64 (wrap64 ((IntKind.u64.wrap (wrap64 (a1 + a3))) / 2)), .func (.func 26) #[] #[]] rfl (by (try simp only [List.map_toArray, List.map_cons, List.map_nil]); first | done | rfl | (simp only [List.length_drop, List.length_take]; rfl)) ?_; (with_reducible refine (ih kj83 (by have := HJ59.out; have := HK2.out; have := HJ76.out; have := HJ78.out; have := HJ83.out; omega) (fun k_ => some k_ = (.slice Ao91 x0_78.length co91 : Value).ownBlock) (.slice Ao91 x0_78.length co91) x0_78 a1 x20_2 (wrap64 ((IntKind.u64.wrap (wrap64 (a1 + a3))) / 2)) a4 t180 w0 _ ?side1 ?side2 A87.out).mono ?_); (case side1 => repeat (first | (with_reducible first | exact HB.out | apply below_alloc | apply pw_below_drewN | apply below_drew1) | exact HB.out)); (case side2 => exact Kd.R_tight rfl HO_0.out); rintro e w92 ⟨rfl, hy0, hb, hkp⟩; refine ⟨_, rfl, ?_⟩; have n0_ := Aside0.mk (Kd.R_reok rfl hy0 (fun k_ e_ => HO_0.out.1 k_ e_)); have n1_ := Aside0.mk (Kept.then_ (S := (fun k_ => P0_ k_)) (by repeat (first | (with_reducible first | exact HK.out | apply Kept.alloc | apply Kept.drewN | apply Kept.drew) | exact HK.out)) hkp (fun k_ hs_ => (fun e_ => (HO_0.out.1 k_ e_.symm)) hs_)); have n2_ := Aside0.mk (hb); clear HO_0; clear HK; clear HB; have HO_0 := n0_; have HK := n1_; have HB := n2_; clear n0_ n1_ n2_; (try clear hb); (try clear hkp); (try clear hy0)) | ((with_reducible refine gate_callee (f := 40) rfl ?_); refine goesL_ (some 219) rfl rfl Try.func40 (by kernel_rfl) rfl #[.slice Ao91 x0_78.length co91, .int .i64 (wrap64 ((IntKind.u64.wrap (wrap64 (a1 + a3))) / 2)), .int .i64 (wrap64 ((wrap64 ((wrap64 ((IntKind.u64.wrap (wrap64 (a1 + a3))) / 2)) + a2)) - x20_2)), .int .i64 a3, .func (.func 26) #[] #[]] rfl (by (try simp only [List.map_toArray, List.map_cons, List.map_nil]); first | done | rfl | (simp only [List.length_drop, List.length_take]; rfl)) ?_; (with_reducible refine (ih kj83 (by have := HJ59.out; have := HK2.out; have := HJ76.out; have := HJ78.out; have := HJ83.out; omega) (fun k_ => some k_ = (.slice Ao91 x0_78.length co91 : Value).ownBlock) (.slice Ao91 x0_78.length co91) t180 (wrap64 ((IntKind.u64.wrap (wrap64 (a1 + a3))) / 2)) (wrap64 ((wrap64 ((wrap64 ((IntKind.u64.wrap (wrap64 (a1 + a3))) / 2)) + a2)) - x20_2)) a3 a4 t181 w0 _ ?side1 ?side2 A90.out).mono ?_); (case side1 => repeat (first | (with_reducible first | exact HB.out | apply below_alloc | apply pw_below_drewN | apply below_drew1) | exact HB.out)); (case side2 => exact Kd.R_tight rfl HO_0.out); rintro e w93 ⟨rfl, hy0, hb, hkp⟩; refine ⟨_, rfl, ?_⟩; have n0_ := Aside0.mk (Kd.R_reok rfl hy0 (fun k_ e_ => HO_0.out.1 k_ e_)); have n1_ := Aside0.mk (Kept.then_ (S := (fun k_ => P0_ k_)) (by repeat (first | (with_reducible first | exact HK.out | apply Kept.alloc | apply Kept.drewN | apply Kept.drew) | exact HK.out)) hkp (fun k_ hs_ => (fun e_ => (HO_0.out.1 k_ e_.symm)) hs_)); have n2_ := Aside0.mk (hb); clear HO_0; clear HK; clear HB; have HO_0 := n0_; have HK := n1_; have HB := n2_; clear n0_ n1_ n2_; (try clear hb); (try clear hkp); (try clear hy0)))
                                  first | go_end0 | ((try simp only [Exit.inBlock, Exit.then]); refine bodyPost_ret (results_none rfl _ _ _) rfl ?_)
                                  exact ⟨by first | rfl | (simp [errW_none, errW_some] <;> rfl) | (simp [*, errW_none, errW_some] <;> rfl), by (with_reducible repeat (first | apply Kd.R_alloc | apply Kd.R_drewN | apply Kd.R_drew)); exact HO_0.out, by repeat (first | (with_reducible first | exact HB.out | apply below_alloc | apply pw_below_drewN | apply below_drew1) | exact HB.out), by repeat (first | (with_reducible first | exact HK.out | apply Kept.alloc | apply Kept.drewN | apply Kept.drew) | exact HK.out)⟩
                                · rw [if_neg c89] at H
                                  have c89b0 : decide ((wrap64 ((wrap64 ((wrap64 ((IntKind.u64.wrap (wrap64 (a1 + a3))) / 2)) + a2)) - x20_2)) < a3) = false := decide_eq_false c89
                                  clear c89
                                  obtain rfl := Option.some.inj H
                                  obtain ⟨Ao94, co94, eo94⟩ := Kd.R_slice HO_0.out
                                  subst eo94
                                  go_wp2_with (first | ((with_reducible refine gate_callee (f := 40) rfl ?_); refine goesL_ (some 205) rfl rfl Try.func40 (by kernel_rfl) rfl #[.slice Ao94 x0_78.length co94, .int .i64 a1, .int .i64 x20_2, .int .i64 (wrap64 ((IntKind.u64.wrap (wrap64 (a1 + a3))) / 2)), .func (.func 26) #[] #[]] rfl (by (try simp only [List.map_toArray, List.map_cons, List.map_nil]); first | done | rfl | (simp only [List.length_drop, List.length_take]; rfl)) ?_; (with_reducible refine (ih kj83 (by have := HJ59.out; have := HK2.out; have := HJ76.out; have := HJ78.out; have := HJ83.out; omega) (fun k_ => some k_ = (.slice Ao94 x0_78.length co94 : Value).ownBlock) (.slice Ao94 x0_78.length co94) x0_78 a1 x20_2 (wrap64 ((IntKind.u64.wrap (wrap64 (a1 + a3))) / 2)) a4 t180 w0 _ ?side1 ?side2 A87.out).mono ?_); (case side1 => repeat (first | (with_reducible first | exact HB.out | apply below_alloc | apply pw_below_drewN | apply below_drew1) | exact HB.out)); (case side2 => exact Kd.R_tight rfl HO_0.out); rintro e w95 ⟨rfl, hy0, hb, hkp⟩; refine ⟨_, rfl, ?_⟩; have n0_ := Aside0.mk (Kd.R_reok rfl hy0 (fun k_ e_ => HO_0.out.1 k_ e_)); have n1_ := Aside0.mk (Kept.then_ (S := (fun k_ => P0_ k_)) (by repeat (first | (with_reducible first | exact HK.out | apply Kept.alloc | apply Kept.drewN | apply Kept.drew) | exact HK.out)) hkp (fun k_ hs_ => (fun e_ => (HO_0.out.1 k_ e_.symm)) hs_)); have n2_ := Aside0.mk (hb); clear HO_0; clear HK; clear HB; have HO_0 := n0_; have HK := n1_; have HB := n2_; clear n0_ n1_ n2_; (try clear hb); (try clear hkp); (try clear hy0)))
                                  first | go_end0 | ((try simp only [Exit.inBlock, Exit.then]); refine bodyPost_ret (results_none rfl _ _ _) rfl ?_)
                                  exact ⟨by first | rfl | (simp [errW_none, errW_some] <;> rfl) | (simp [*, errW_none, errW_some] <;> rfl), by (with_reducible repeat (first | apply Kd.R_alloc | apply Kd.R_drewN | apply Kd.R_drew)); exact HO_0.out, by repeat (first | (with_reducible first | exact HB.out | apply below_alloc | apply pw_below_drewN | apply below_drew1) | exact HB.out), by repeat (first | (with_reducible first | exact HK.out | apply Kept.alloc | apply Kept.drewN | apply Kept.drew) | exact HK.out)⟩
                              · rw [if_neg c88] at H
                                have c88b0 : decide ((wrap64 ((IntKind.u64.wrap (wrap64 (a1 + a3))) / 2)) < (wrap64 ((wrap64 ((wrap64 ((IntKind.u64.wrap (wrap64 (a1 + a3))) / 2)) + a2)) - x20_2))) = false := decide_eq_false c88
                                clear c88
                                obtain rfl := Option.some.inj H
                                obtain ⟨Ao96, co96, eo96⟩ := Kd.R_slice HO_0.out
                                subst eo96
                                go_wp2_with (first | ((with_reducible refine gate_callee (f := 40) rfl ?_); refine goesL_ (some 205) rfl rfl Try.func40 (by kernel_rfl) rfl #[.slice Ao96 x0_78.length co96, .int .i64 a1, .int .i64 x20_2, .int .i64 (wrap64 ((IntKind.u64.wrap (wrap64 (a1 + a3))) / 2)), .func (.func 26) #[] #[]] rfl (by (try simp only [List.map_toArray, List.map_cons, List.map_nil]); first | done | rfl | (simp only [List.length_drop, List.length_take]; rfl)) ?_; (with_reducible refine (ih kj83 (by have := HJ59.out; have := HK2.out; have := HJ76.out; have := HJ78.out; have := HJ83.out; omega) (fun k_ => some k_ = (.slice Ao96 x0_78.length co96 : Value).ownBlock) (.slice Ao96 x0_78.length co96) x0_78 a1 x20_2 (wrap64 ((IntKind.u64.wrap (wrap64 (a1 + a3))) / 2)) a4 t180 w0 _ ?side1 ?side2 A87.out).mono ?_); (case side1 => repeat (first | (with_reducible first | exact HB.out | apply below_alloc | apply pw_below_drewN | apply below_drew1) | exact HB.out)); (case side2 => exact Kd.R_tight rfl HO_0.out); rintro e w97 ⟨rfl, hy0, hb, hkp⟩; refine ⟨_, rfl, ?_⟩; have n0_ := Aside0.mk (Kd.R_reok rfl hy0 (fun k_ e_ => HO_0.out.1 k_ e_)); have n1_ := Aside0.mk (Kept.then_ (S := (fun k_ => P0_ k_)) (by repeat (first | (with_reducible first | exact HK.out | apply Kept.alloc | apply Kept.drewN | apply Kept.drew) | exact HK.out)) hkp (fun k_ hs_ => (fun e_ => (HO_0.out.1 k_ e_.symm)) hs_)); have n2_ := Aside0.mk (hb); clear HO_0; clear HK; clear HB; have HO_0 := n0_; have HK := n1_; have HB := n2_; clear n0_ n1_ n2_; (try clear hb); (try clear hkp); (try clear hy0)))
                                first | go_end0 | ((try simp only [Exit.inBlock, Exit.then]); refine bodyPost_ret (results_none rfl _ _ _) rfl ?_)
                                exact ⟨by first | rfl | (simp [errW_none, errW_some] <;> rfl) | (simp [*, errW_none, errW_some] <;> rfl), by (with_reducible repeat (first | apply Kd.R_alloc | apply Kd.R_drewN | apply Kd.R_drew)); exact HO_0.out, by repeat (first | (with_reducible first | exact HB.out | apply below_alloc | apply pw_below_drewN | apply below_drew1) | exact HB.out), by repeat (first | (with_reducible first | exact HK.out | apply Kept.alloc | apply Kept.drewN | apply Kept.drew) | exact HK.out)⟩
                            · replace c86 := Bool.eq_false_iff.mpr c86
                              subst c86
                              have H1 : (if (wrap64 ((IntKind.u64.wrap (wrap64 (a1 + a3))) / 2)) < (wrap64 ((wrap64 ((wrap64 ((IntKind.u64.wrap (wrap64 (a1 + a3))) / 2)) + a2)) - x20_2)) then (if (wrap64 ((wrap64 ((wrap64 ((IntKind.u64.wrap (wrap64 (a1 + a3))) / 2)) + a2)) - x20_2)) < a3 then ((api_Cmd_40.f kj83 x0_78 (wrap64 ((IntKind.u64.wrap (wrap64 (a1 + a3))) / 2)) (wrap64 ((wrap64 ((wrap64 ((IntKind.u64.wrap (wrap64 (a1 + a3))) / 2)) + a2)) - x20_2)) a3 a4).bind fun t182 => (some t182)) else (some x0_78)) else (some x0_78)) = some r := by rw [if_neg (show ¬ (false = true) by decide)] at H; exact H
                              clear H
                              have H := H1
                              clear H1
                              by_cases c98 : (wrap64 ((IntKind.u64.wrap (wrap64 (a1 + a3))) / 2)) < (wrap64 ((wrap64 ((wrap64 ((IntKind.u64.wrap (wrap64 (a1 + a3))) / 2)) + a2)) - x20_2))
                              · rw [if_pos c98] at H
                                have c98b0 : decide ((wrap64 ((IntKind.u64.wrap (wrap64 (a1 + a3))) / 2)) < (wrap64 ((wrap64 ((wrap64 ((IntKind.u64.wrap (wrap64 (a1 + a3))) / 2)) + a2)) - x20_2))) = true := decide_eq_true c98
                                clear c98
                                by_cases c99 : (wrap64 ((wrap64 ((wrap64 ((IntKind.u64.wrap (wrap64 (a1 + a3))) / 2)) + a2)) - x20_2)) < a3
                                · rw [if_pos c99] at H
                                  have c99b0 : decide ((wrap64 ((wrap64 ((wrap64 ((IntKind.u64.wrap (wrap64 (a1 + a3))) / 2)) + a2)) - x20_2)) < a3) = true := decide_eq_true c99
                                  clear c99
                                  replace H := Option.bind_eq_some_iff.mp H
                                  obtain ⟨t182, A1000, H⟩ := H
                                  replace H : (some t182) = some r := H
                                  have A100 := Aside0.mk A1000
                                  clear A1000
                                  obtain rfl := Option.some.inj H
                                  obtain ⟨Ao101, co101, eo101⟩ := Kd.R_slice HO_0.out
                                  subst eo101
                                  go_wp2_with (first | ((with_reducible refine gate_callee (f := 40) rfl ?_); refine goesL_ (some 219) rfl rfl Try.func40 (by kernel_rfl) rfl #[.slice Ao101 x0_78.length co101, .int .i64 (wrap64 ((IntKind.u64.wrap (wrap64 (a1 + a3))) / 2)), .int .i64 (wrap64 ((wrap64 ((wrap64 ((IntKind.u64.wrap (wrap64 (a1 + a3))) / 2)) + a2)) - x20_2)), .int .i64 a3, .func (.func 26) #[] #[]] rfl (by (try simp only [List.map_toArray, List.map_cons, List.map_nil]); first | done | rfl | (simp only [List.length_drop, List.length_take]; rfl)) ?_; (with_reducible refine (ih kj83 (by have := HJ59.out; have := HK2.out; have := HJ76.out; have := HJ78.out; have := HJ83.out; omega) (fun k_ => some k_ = (.slice Ao101 x0_78.length co101 : Value).ownBlock) (.slice Ao101 x0_78.length co101) x0_78 (wrap64 ((IntKind.u64.wrap (wrap64 (a1 + a3))) / 2)) (wrap64 ((wrap64 ((wrap64 ((IntKind.u64.wrap (wrap64 (a1 + a3))) / 2)) + a2)) - x20_2)) a3 a4 t182 w0 _ ?side1 ?side2 A100.out).mono ?_); (case side1 => repeat (first | (with_reducible first | exact HB.out | apply below_alloc | apply pw_below_drewN | apply below_drew1) | exact HB.out)); (case side2 => exact Kd.R_tight rfl HO_0.out); rintro e w102 ⟨rfl, hy0, hb, hkp⟩; refine ⟨_, rfl, ?_⟩; have n0_ := Aside0.mk (Kd.R_reok rfl hy0 (fun k_ e_ => HO_0.out.1 k_ e_)); have n1_ := Aside0.mk (Kept.then_ (S := (fun k_ => P0_ k_)) (by repeat (first | (with_reducible first | exact HK.out | apply Kept.alloc | apply Kept.drewN | apply Kept.drew) | exact HK.out)) hkp (fun k_ hs_ => (fun e_ => (HO_0.out.1 k_ e_.symm)) hs_)); have n2_ := Aside0.mk (hb); clear HO_0; clear HK; clear HB; have HO_0 := n0_; have HK := n1_; have HB := n2_; clear n0_ n1_ n2_; (try clear hb); (try clear hkp); (try clear hy0)))
                                  first | go_end0 | ((try simp only [Exit.inBlock, Exit.then]); refine bodyPost_ret (results_none rfl _ _ _) rfl ?_)
                                  exact ⟨by first | rfl | (simp [errW_none, errW_some] <;> rfl) | (simp [*, errW_none, errW_some] <;> rfl), by (with_reducible repeat (first | apply Kd.R_alloc | apply Kd.R_drewN | apply Kd.R_drew)); exact HO_0.out, by repeat (first | (with_reducible first | exact HB.out | apply below_alloc | apply pw_below_drewN | apply below_drew1) | exact HB.out), by repeat (first | (with_reducible first | exact HK.out | apply Kept.alloc | apply Kept.drewN | apply Kept.drew) | exact HK.out)⟩
                                · rw [if_neg c99] at H
                                  have c99b0 : decide ((wrap64 ((wrap64 ((wrap64 ((IntKind.u64.wrap (wrap64 (a1 + a3))) / 2)) + a2)) - x20_2)) < a3) = false := decide_eq_false c99
                                  clear c99
                                  obtain rfl := Option.some.inj H
                                  go_wp2
                                  first | go_end0 | ((try simp only [Exit.inBlock, Exit.then]); refine bodyPost_ret (results_none rfl _ _ _) rfl ?_)
                                  exact ⟨by first | rfl | (simp [errW_none, errW_some] <;> rfl) | (simp [*, errW_none, errW_some] <;> rfl), by (with_reducible repeat (first | apply Kd.R_alloc | apply Kd.R_drewN | apply Kd.R_drew)); exact HO_0.out, by repeat (first | (with_reducible first | exact HB.out | apply below_alloc | apply pw_below_drewN | apply below_drew1) | exact HB.out), by repeat (first | (with_reducible first | exact HK.out | apply Kept.alloc | apply Kept.drewN | apply Kept.drew) | exact HK.out)⟩
                              · rw [if_neg c98] at H
                                have c98b0 : decide ((wrap64 ((IntKind.u64.wrap (wrap64 (a1 + a3))) / 2)) < (wrap64 ((wrap64 ((wrap64 ((IntKind.u64.wrap (wrap64 (a1 + a3))) / 2)) + a2)) - x20_2))) = false := decide_eq_false c98
                                clear c98
                                obtain rfl := Option.some.inj H
                                go_wp2
                                first | go_end0 | ((try simp only [Exit.inBlock, Exit.then]); refine bodyPost_ret (results_none rfl _ _ _) rfl ?_)
                                exact ⟨by first | rfl | (simp [errW_none, errW_some] <;> rfl) | (simp [*, errW_none, errW_some] <;> rfl), by (with_reducible repeat (first | apply Kd.R_alloc | apply Kd.R_drewN | apply Kd.R_drew)); exact HO_0.out, by repeat (first | (with_reducible first | exact HB.out | apply below_alloc | apply pw_below_drewN | apply below_drew1) | exact HB.out), by repeat (first | (with_reducible first | exact HK.out | apply Kept.alloc | apply Kept.drewN | apply Kept.drew) | exact HK.out)⟩

set_option maxHeartbeats 8000000 in
set_option maxRecDepth 100000 in
theorem api_Cmd_40.calls (k : Nat) : ∀ (P0_ : Nat → Prop) (u9000_ : Value) (l0 : List (S32)) (a1 : Int) (a2 : Int) (a3 : Int) (a4 : Int) (r : List (S32)) (w0 w : World) (hB : Below w0.heap.size w0 w) (ho0 : Kd.R k32 32 w w0.heap.size P0_ u9000_ l0) (h : api_Cmd_40.f k l0 a1 a2 a3 a4 = some r),
    Calls Try.prog 40 #[u9000_, .int .i64 a1, .int .i64 a2, .int .i64 a3, .func (.func 26) #[] #[]] w fun e w' => e = .returned (.tuple #[]) ∧ Kd.R k32 32 w' w0.heap.size (fun k_ => (P0_ k_ ∨ w.heap.size ≤ k_)) u9000_ r ∧ Below w0.heap.size w0 w' ∧ Kept w w' (fun k_ => P0_ k_) := by
  induction k using Nat.strongRecOn with
  | _ k ih =>
  intro P0_ u9000_ l0 a1 a2 a3 a4 r w0 w hB ho0 h
  cases k with
  | zero => exact absurd h (by simp [api_Cmd_40.f])
  | succ k =>
  by_cases c6 : (wrap64 (a2 - a1)) = 1
  · exact api_Cmd_40.calls_a k ih P0_ u9000_ l0 a1 a2 a3 a4 r w0 w hB ho0 h c6
  · by_cases c33 : (wrap64 (a3 - a2)) = 1
    · exact api_Cmd_40.calls_b k ih P0_ u9000_ l0 a1 a2 a3 a4 r w0 w hB ho0 h c6 c33
    · exact api_Cmd_40.calls_c k ih P0_ u9000_ l0 a1 a2 a3 a4 r w0 w hB ho0 h c6 c33
end Go.Proofs.Ytmlgklklikgafaa.PPredsTells
