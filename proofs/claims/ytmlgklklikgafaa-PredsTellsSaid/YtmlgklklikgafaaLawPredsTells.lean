-- Written by a program of this session, which is the kit's print with hand-given functions (wip/tools/mkprint.py).
import Derived.Test.YtmlgklklikgafaaRows
import Derived.Test.YtmlgklklikgafaaPPredsTellsx
import Derived.Test.YtmlgklklikgafaaPurePredsTells
import Derived.Test.YtmlgklklikgafaaRowKd
import Derived.WalkKit
import Derived.ProofKit
import Derived.OpenShut
import Derived.ShutString
import Derived.ChangeOld
import Derived.Below
import Derived.SizedLaws
namespace Go.Proofs.Ytmlgklklikgafaa.predsTells
open Go.ChangeShapes Go.WideShapes Go.ChangeAt Go.RowKit Go.Proofs.YtmlgklklikgafaaW.RowKd Go.Proofs.YtmlgklklikgafaaW.PrintWords Go.Proofs.Ytmlgklklikgafaa.PPredsTells
open Go.ChangeMaps (open_string shut_string)
set_option linter.unusedVariables false
theorem own : ownKnob Try.prog.godebug = none := by kernel_rfl
theorem laidOut : laidOutB Try.prog = true := by kernel_rfl
set_option maxRecDepth 100000 in
theorem opensS32 : Opens Try.prog 32 k32 gS32 := by
  refine opens_imp (g := fun (x : S32) => (fun (p : Int × Int × Int × Int × Int × Int × Int) => (fun (n : Int) => (Lit.int .i64 n).wf = true) p.1 ∧ (fun (p : Int × Int × Int × Int × Int × Int) => (fun (n : Int) => (Lit.int .i64 n).wf = true) p.1 ∧ (fun (p : Int × Int × Int × Int × Int) => (fun (n : Int) => (Lit.int .i64 n).wf = true) p.1 ∧ (fun (p : Int × Int × Int × Int) => (fun (n : Int) => (Lit.int .i64 n).wf = true) p.1 ∧ (fun (p : Int × Int × Int) => (fun (n : Int) => (Lit.int .i64 n).wf = true) p.1 ∧ (fun (p : Int × Int) => (fun (n : Int) => (Lit.int .i64 n).wf = true) p.1 ∧ (fun (n : Int) => (Lit.int .i64 n).wf = true) p.2) p.2) p.2) p.2) p.2) p.2) (x.f0, x.f1, x.f2, x.f3, x.f4, x.f5, x.f6)) (opens_struct (P := Try.prog) (d := (Kd.pair (Kd.int .i64) (Kd.pair (Kd.int .i64) (Kd.pair (Kd.int .i64) (Kd.pair (Kd.int .i64) (Kd.pair (Kd.int .i64) (Kd.pair (Kd.int .i64) (Kd.int .i64)))))))) (g := (fun (p : Int × Int × Int × Int × Int × Int × Int) => (fun (n : Int) => (Lit.int .i64 n).wf = true) p.1 ∧ (fun (p : Int × Int × Int × Int × Int × Int) => (fun (n : Int) => (Lit.int .i64 n).wf = true) p.1 ∧ (fun (p : Int × Int × Int × Int × Int) => (fun (n : Int) => (Lit.int .i64 n).wf = true) p.1 ∧ (fun (p : Int × Int × Int × Int) => (fun (n : Int) => (Lit.int .i64 n).wf = true) p.1 ∧ (fun (p : Int × Int × Int) => (fun (n : Int) => (Lit.int .i64 n).wf = true) p.1 ∧ (fun (p : Int × Int) => (fun (n : Int) => (Lit.int .i64 n).wf = true) p.1 ∧ (fun (n : Int) => (Lit.int .i64 n).wf = true) p.2) p.2) p.2) p.2) p.2) p.2)) (proj := fun x : S32 => (x.f0, x.f1, x.f2, x.f3, x.f4, x.f5, x.f6)) Try.underlying32 (by kernel_rfl) (fun p => (⟨p.1, p.2.1, p.2.2.1, p.2.2.2.1, p.2.2.2.2.1, p.2.2.2.2.2.1, p.2.2.2.2.2.2⟩ : S32)) (fun _ => rfl) ?F) (fun _ h => h)
  refine opensF_cons (g := (fun (n : Int) => (Lit.int .i64 n).wf = true)) (gs := (fun (p : Int × Int × Int × Int × Int × Int) => (fun (n : Int) => (Lit.int .i64 n).wf = true) p.1 ∧ (fun (p : Int × Int × Int × Int × Int) => (fun (n : Int) => (Lit.int .i64 n).wf = true) p.1 ∧ (fun (p : Int × Int × Int × Int) => (fun (n : Int) => (Lit.int .i64 n).wf = true) p.1 ∧ (fun (p : Int × Int × Int) => (fun (n : Int) => (Lit.int .i64 n).wf = true) p.1 ∧ (fun (p : Int × Int) => (fun (n : Int) => (Lit.int .i64 n).wf = true) p.1 ∧ (fun (n : Int) => (Lit.int .i64 n).wf = true) p.2) p.2) p.2) p.2) p.2)) (d := (Kd.int .i64)) (ds := (Kd.pair (Kd.int .i64) (Kd.pair (Kd.int .i64) (Kd.pair (Kd.int .i64) (Kd.pair (Kd.int .i64) (Kd.pair (Kd.int .i64) (Kd.int .i64))))))) rfl (opens_int Try.underlying3 (by kernel_rfl)) ?_
  refine opensF_cons (g := (fun (n : Int) => (Lit.int .i64 n).wf = true)) (gs := (fun (p : Int × Int × Int × Int × Int) => (fun (n : Int) => (Lit.int .i64 n).wf = true) p.1 ∧ (fun (p : Int × Int × Int × Int) => (fun (n : Int) => (Lit.int .i64 n).wf = true) p.1 ∧ (fun (p : Int × Int × Int) => (fun (n : Int) => (Lit.int .i64 n).wf = true) p.1 ∧ (fun (p : Int × Int) => (fun (n : Int) => (Lit.int .i64 n).wf = true) p.1 ∧ (fun (n : Int) => (Lit.int .i64 n).wf = true) p.2) p.2) p.2) p.2)) (d := (Kd.int .i64)) (ds := (Kd.pair (Kd.int .i64) (Kd.pair (Kd.int .i64) (Kd.pair (Kd.int .i64) (Kd.pair (Kd.int .i64) (Kd.int .i64)))))) rfl (opens_int Try.underlying29 (by kernel_rfl)) ?_
  refine opensF_cons (g := (fun (n : Int) => (Lit.int .i64 n).wf = true)) (gs := (fun (p : Int × Int × Int × Int) => (fun (n : Int) => (Lit.int .i64 n).wf = true) p.1 ∧ (fun (p : Int × Int × Int) => (fun (n : Int) => (Lit.int .i64 n).wf = true) p.1 ∧ (fun (p : Int × Int) => (fun (n : Int) => (Lit.int .i64 n).wf = true) p.1 ∧ (fun (n : Int) => (Lit.int .i64 n).wf = true) p.2) p.2) p.2)) (d := (Kd.int .i64)) (ds := (Kd.pair (Kd.int .i64) (Kd.pair (Kd.int .i64) (Kd.pair (Kd.int .i64) (Kd.int .i64))))) rfl (opens_int Try.underlying3 (by kernel_rfl)) ?_
  refine opensF_cons (g := (fun (n : Int) => (Lit.int .i64 n).wf = true)) (gs := (fun (p : Int × Int × Int) => (fun (n : Int) => (Lit.int .i64 n).wf = true) p.1 ∧ (fun (p : Int × Int) => (fun (n : Int) => (Lit.int .i64 n).wf = true) p.1 ∧ (fun (n : Int) => (Lit.int .i64 n).wf = true) p.2) p.2)) (d := (Kd.int .i64)) (ds := (Kd.pair (Kd.int .i64) (Kd.pair (Kd.int .i64) (Kd.int .i64)))) rfl (opens_int Try.underlying3 (by kernel_rfl)) ?_
  refine opensF_cons (g := (fun (n : Int) => (Lit.int .i64 n).wf = true)) (gs := (fun (p : Int × Int) => (fun (n : Int) => (Lit.int .i64 n).wf = true) p.1 ∧ (fun (n : Int) => (Lit.int .i64 n).wf = true) p.2)) (d := (Kd.int .i64)) (ds := (Kd.pair (Kd.int .i64) (Kd.int .i64))) rfl (opens_int Try.underlying30 (by kernel_rfl)) ?_
  refine opensF_cons (g := (fun (n : Int) => (Lit.int .i64 n).wf = true)) (gs := (fun (n : Int) => (Lit.int .i64 n).wf = true)) (d := (Kd.int .i64)) (ds := (Kd.int .i64)) rfl (opens_int Try.underlying3 (by kernel_rfl)) ?_
  exact opensF_one (g := (fun (n : Int) => (Lit.int .i64 n).wf = true)) (d := (Kd.int .i64)) rfl (opens_int Try.underlying3 (by kernel_rfl))
set_option maxRecDepth 100000 in
theorem lifted (os : Os) (started : os.Started) (H : Type) (enc : TypeId × Value → H) :
    ReturnsInHanded {} Try.checked os 4 .any (Rows.predsTellsSpec.pre6 enc Try.prog Try.f4 Rows.predsTellsRow.domain false) (Rows.predsTellsSpec.post enc Try.prog Try.f4 false true false false) := by
  refine returnsInHanded_of_change_sized (C := Try.checked) own started (by kernel_rfl) Try.func4
    (ChangeSpec.witness6 (enc := enc) (C := Try.checked) false ⟨#[], #[.slice none 0 0, .slice none 0 0, .int .i64 0], []⟩ 8 (by kernel_rfl) (by kernel_rfl) (by kernel_rfl) (by kernel_rfl)) ?_
  intro W base args ds gs before hval0 hW hcnd hsz0 _
  have hval : ∀ (j : Nat) t v, Try.f4.params[j]? = some t → args[j]? = some v → Value.okWide Try.prog W .any base t v := hval0
  have hW' := hW
  obtain ⟨p, q, hA0, hV, rfl, hfz, hnd⟩ := hW
  have hA : DataW.TrodAll enc Try.prog W 0 (fun _ => true) true Try.f4.params.toList args.toList ds p := hA0
  rw [Try.params4] at hA hval
  obtain ⟨v0, vs0, d0, ds0, p0, q0, hargs, rfl, rfl, h0, r0⟩ := trodAll_cons hA
  obtain ⟨v1, vs1, d1, ds1, p1, q1, rfl, rfl, rfl, h1, r1⟩ := trodAll_cons r0
  obtain ⟨v2, vs2, d2, ds2, p2, q2, rfl, rfl, rfl, h2, r2⟩ := trodAll_cons r1
  obtain ⟨rfl, rfl, rfl⟩ := trodAll_nil r2
  obtain rfl : args = #[v0, v1, v2] := by cases args; simp_all
  obtain ⟨rfl, rfl⟩ := trodVars_none hV
  obtain ⟨a0, len0, cap0, rfl⟩ := okWide_slice Try.underlying22 (hval 0 22 v0 rfl rfl)
  have k0 := h0
  have lt0 : ∀ x ∈ p0, x.block < W.heap.size := by obtain ⟨m, hm⟩ := k0; exact DataW.trod_lt m _ _ _ hm
  obtain ⟨l0, rfl, lc0, lr0, g0⟩ := slice_arg (opens_slice Try.underlying22 (by kernel_rfl) opensS32) h0
  obtain ⟨a1, len1, cap1, rfl⟩ := okWide_slice Try.underlying22 (hval 1 22 v1 rfl rfl)
  have k1 := h1
  have lt1 : ∀ x ∈ p1, x.block < W.heap.size := by obtain ⟨m, hm⟩ := k1; exact DataW.trod_lt m _ _ _ hm
  obtain ⟨l1, rfl, lc1, lr1, g1⟩ := slice_arg (opens_slice Try.underlying22 (by kernel_rfl) opensS32) h1
  obtain ⟨a2, rfl, rfl, rfl, w2⟩ := open_int Try.underlying3 (hval 2 3 v2 rfl rfl) h2
  clear hA0 hval0 hsz0
  obtain ⟨k, hP⟩ := Pure.PredsTells l0 l1 a2 g0 g1 w2
  refine (PPredsTells.lictorlaw03_PredsTells.calls k (fun k_ => k_ < W.heap.size) _ _ l0 (fun k_ => k_ < W.heap.size) _ _ l1 a2 true W (Kd.V_mk lc0 (Kd.C_F (Kd.heap_iso _ (Kd.heap_pair (Kd.heap_int .i64) (Kd.heap_pair (Kd.heap_int .i64) (Kd.heap_pair (Kd.heap_int .i64) (Kd.heap_pair (Kd.heap_int .i64) (Kd.heap_pair (Kd.heap_int .i64) (Kd.heap_pair (Kd.heap_int .i64) (Kd.heap_int .i64)))))))) lr0)) (Kd.V_mk lc1 (Kd.C_F (Kd.heap_iso _ (Kd.heap_pair (Kd.heap_int .i64) (Kd.heap_pair (Kd.heap_int .i64) (Kd.heap_pair (Kd.heap_int .i64) (Kd.heap_pair (Kd.heap_int .i64) (Kd.heap_pair (Kd.heap_int .i64) (Kd.heap_pair (Kd.heap_int .i64) (Kd.heap_int .i64)))))))) lr1)) hP).mono fun e W' he => ?_
  obtain ⟨he, hb_⟩ := he
  have bel : Below W.heap.size W W' := hb_
  subst he
  exact ⟨_, rfl, _, _, _, [], _, [], hW', trodAll_mk1 (shut_bool Try.underlying4 _), (trodAll_cons_mk (Below.trod laidOut (by kernel_rfl) (of_decide_eq_true (by kernel_rfl)) k0 bel lt0) (trodAll_cons_mk (Below.trod laidOut (by kernel_rfl) (of_decide_eq_true (by kernel_rfl)) k1 bel lt1) (trodAll_cons_mk (shut_int Try.underlying3 w2) trodAll_mk0))), rfl, bel.frame _, fun h => by cases h⟩
theorem over : Rows.predsTellsRow.holds Try.pinned (OpenSpec.ofChange Rows.predsTellsSpec) :=
  OpenClaim.holds_of_wide 4 Try.f4 rfl rfl rfl rfl rfl rfl rfl ⟨rfl, rfl, rfl, rfl, rfl⟩ rfl rfl rfl rfl rfl (by kernel_rfl) Try.func4 (by kernel_rfl)
    (of_decide_eq_true (by kernel_rfl)) (by unfold Func.isWrapper; first | (rw [if_pos (by decide +kernel)]; kernel_rfl) | (rw [if_neg (by decide +kernel)]; exact ⟨rfl, rfl⟩))
    (fun os started H enc _ => lifted os started H enc)
theorem proved : Rows.PredsTellsSaid := over
end Go.Proofs.Ytmlgklklikgafaa.predsTells

namespace Go.Proofs.Ytmlgklklikgafaa
theorem predsTells_holds : Rows.PredsTellsSaid := predsTells.proved
end Go.Proofs.Ytmlgklklikgafaa
