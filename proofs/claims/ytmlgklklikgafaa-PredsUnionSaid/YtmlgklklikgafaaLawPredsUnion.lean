-- Written by a program of this session, which is the kit's print with hand-given functions (wip/tools/mkprint.py).
import Derived.Test.YtmlgklklikgafaaRows
import Derived.Test.YtmlgklklikgafaaPPredsUnionx
import Derived.Test.YtmlgklklikgafaaPurePredsUnion
import Derived.Test.YtmlgklklikgafaaRowKd
import Derived.WalkKit
import Derived.ProofKit
import Derived.OpenShut
import Derived.ShutString
import Derived.ChangeOld
import Derived.Below
import Derived.SizedLaws
namespace Go.Proofs.Ytmlgklklikgafaa.predsUnion
open Go.ChangeShapes Go.WideShapes Go.ChangeAt Go.RowKit Go.Proofs.YtmlgklklikgafaaW.RowKd Go.Proofs.YtmlgklklikgafaaW.PrintWords Go.Proofs.Ytmlgklklikgafaa.PPredsUnion
open Go.ChangeMaps (open_string shut_string)
set_option linter.unusedVariables false
theorem own : ownKnob Try.prog.godebug = none := by kernel_rfl
theorem laidOut : laidOutB Try.prog = true := by kernel_rfl
set_option maxRecDepth 100000 in
theorem opensS32 : Opens Try.prog 32 k32 gS32 := by
  refine opens_imp (g := fun (x : S32) => (fun (p : Int × Int × Int × Int × Int × Int × Int) => (fun (n : Int) => (Lit.int .i64 n).wf = true) p.1 ∧ (fun (p : Int × Int × Int × Int × Int × Int) => (fun (n : Int) => (Lit.int .i64 n).wf = true) p.1 ∧ (fun (p : Int × Int × Int × Int × Int) => (fun (n : Int) => (Lit.int .i64 n).wf = true) p.1 ∧ (fun (p : Int × Int × Int × Int) => (fun (n : Int) => (Lit.int .i64 n).wf = true) p.1 ∧ (fun (p : Int × Int × Int) => (fun (n : Int) => (Lit.int .i64 n).wf = true) p.1 ∧ (fun (p : Int × Int) => (fun (n : Int) => (Lit.int .i64 n).wf = true) p.1 ∧ (fun (n : Int) => (Lit.int .i64 n).wf = true) p.2) p.2) p.2) p.2) p.2) p.2) (x.f0, x.f1, x.f2, x.f3, x.f4, x.f5, x.f6)) (opens_struct (P := Try.prog) (d := (Kd.pair (Kd.int .i64) (Kd.pair (Kd.int .i64) (Kd.pair (Kd.int .i64) (Kd.pair (Kd.int .i64) (Kd.pair (Kd.int .i64) (Kd.pair (Kd.int .i64) (Kd.int .i64)))))))) (g := (fun (p : Int × Int × Int × Int × Int × Int × Int) => (fun (n : Int) => (Lit.int .i64 n).wf = true) p.1 ∧ (fun (p : Int × Int × Int × Int × Int × Int) => (fun (n : Int) => (Lit.int .i64 n).wf = true) p.1 ∧ (fun (p : Int × Int × Int × Int × Int) => (fun (n : Int) => (Lit.int .i64 n).wf = true) p.1 ∧ (fun (p : Int × Int × Int × Int) => (fun (n : Int) => (Lit.int .i64 n).wf = true) p.1 ∧ (fun (p : Int × Int × Int) => (fun (n : Int) => (Lit.int .i64 n).wf = true) p.1 ∧ (fun (p : Int × Int) => (fun (n : Int) => (Lit.int .i64 n).wf = true) p.1 ∧ (fun (n : Int) => (Lit.int .i64 n).wf = true) p.2) p.2) p.2) p.2) p.2) p.2)) (proj := fun x : S32 => (x.f0, x.f1, x.f2, x.f3, x.f4, x.f5, x.f6)) Try.underlying32 (by kernel_rfl) (fun p => (⟨p.1, p.2.1, p.2.2.1, p.2.2.2.1, p.2.2.2.2.1, p.2.2.2.2.2.1, p.2.2.2.2.2.2⟩ : S32)) (fun _ => rfl) ?F) (fun _ h => h)
  refine opensF_cons (g := (fun (n : Int) => (Lit.int .i64 n).wf = true)) (gs := (fun (p : Int × Int × Int × Int × Int × Int) => (fun (n : Int) => (Lit.int .i64 n).wf = true) p.1 ∧ (fun (p : Int × Int × Int × Int × Int) => (fun (n : Int) => (Lit.int .i64 n).wf = true) p.1 ∧ (fun (p : Int × Int × Int × Int) => (fun (n : Int) => (Lit.int .i64 n).wf = true) p.1 ∧ (fun (p : Int × Int × Int) => (fun (n : Int) => (Lit.int .i64 n).wf = true) p.1 ∧ (fun (p : Int × Int) => (fun (n : Int) => (Lit.int .i64 n).wf = true) p.1 ∧ (fun (n : Int) => (Lit.int .i64 n).wf = true) p.2) p.2) p.2) p.2) p.2)) (d := (Kd.int .i64)) (ds := (Kd.pair (Kd.int .i64) (Kd.pair (Kd.int .i64) (Kd.pair (Kd.int .i64) (Kd.pair (Kd.int .i64) (Kd.pair (Kd.int .i64) (Kd.int .i64))))))) rfl (opens_int Try.underlying3 (by kernel_rfl)) ?_
  refine opensF_cons (g := (fun (n : Int) => (Lit.int .i64 n).wf = true)) (gs := (fun (p : Int × Int × Int × Int × Int) => (fun (n : Int) => (Lit.int .i64 n).wf = true) p.1 ∧ (fun (p : Int × Int × Int × Int) => (fun (n : Int) => (Lit.int .i64 n).wf = true) p.1 ∧ (fun (p : Int × Int × Int) => (fun (n : Int) => (Lit.int .i64 n).wf = true) p.1 ∧ (fun (p : Int × Int) => (fun (n : Int) => (Lit.int .i64 n).wf = true) p.1 ∧ (fun (n : Int) => (Lit.int .i64 n).wf = true) p.2) p.2) p.2) p.2)) (d := (Kd.int .i64)) (ds := (Kd.pair (Kd.int .i64) (Kd.pair (Kd.int .i64) (Kd.pair (Kd.int .i64) (Kd.pair (Kd.int .i64) (Kd.int .i64)))))) rfl (opens_int Try.underlying29 (by kernel_rfl)) ?_
  refine opensF_cons (g := (fun (n : Int) => (Lit.int .i64 n).wf = true)) (gs := (fun (p : Int × Int × Int × Int) => (fun (n : Int) => (Lit.int .i64 n).wf = true) p.1 ∧ (fun (p : Int × Int × Int) => (fun (n : Int) => (Lit.int .i64 n).wf = true) p.1 ∧ (fun (p : Int × Int) => (fun (n : Int) => (Lit.int .i64 n).wf = true) p.1 ∧ (fun (n : Int) => (Lit.int .i64 n).wf = true) p.2) p.2) p.2)) (d := (Kd.int .i64)) (ds := (Kd.pair (Kd.int .i64) (Kd.pair (Kd.int .i64) (Kd.pair (Kd.int .i64) (Kd.int .i64))))) rfl (opens_int Try.underlying3 (by kernel_rfl)) ?_
  refine opensF_cons (g := (fun (n : Int) => (Lit.int .i64 n).wf = true)) (gs := (fun (p : Int × Int × Int) => (fun (n : Int) => (Lit.int .i64 n).wf = true) p.1 ∧ (fun (p : Int × Int) => (fun (n : Int) => (Lit.int .i64 n).wf = true) p.1 ∧ (fun (n : Int) => (Lit.int .i64 n).wf = true) p.2) p.2)) (d := (Kd.int .i64)) (ds := (Kd.pair (Kd.int .i64) (Kd.pair (Kd.int .i64) (Kd.int .i64)))) rfl (opens_int Try.underlying3 (by kernel_rfl)) ?_
  refine opensF_cons (g := (fun (n : Int) => (Lit.int .i64 n).wf = true)) (gs := (fun (p : Int × Int) => (fun (n : Int) => (Lit.int .i64 n).wf = true) p.1 ∧ (fun (n : Int) => (Lit.int .i64 n).wf = true) p.2)) (d := (Kd.int .i64)) (ds := (Kd.pair (Kd.int .i64) (Kd.int .i64))) rfl (opens_int Try.underlying30 (by kernel_rfl)) ?_
  refine opensF_cons (g := (fun (n : Int) => (Lit.int .i64 n).wf = true)) (gs := (fun (n : Int) => (Lit.int .i64 n).wf = true)) (d := (Kd.int .i64)) (ds := (Kd.int .i64)) rfl (opens_int Try.underlying3 (by kernel_rfl)) ?_
  exact opensF_one (g := (fun (n : Int) => (Lit.int .i64 n).wf = true)) (d := (Kd.int .i64)) rfl (opens_int Try.underlying3 (by kernel_rfl))
set_option maxRecDepth 100000 in
theorem lifted (os : Os) (started : os.Started) (H : Type) (enc : TypeId × Value → H) :
    ReturnsInHanded {} Try.checked os 3 .any (Rows.predsUnionSpec.pre6 enc Try.prog Try.f3 Rows.predsUnionRow.domain false) (Rows.predsUnionSpec.post enc Try.prog Try.f3 false true false false) := by
  refine returnsInHanded_of_change_sized (C := Try.checked) own started (by kernel_rfl) Try.func3
    (ChangeSpec.witness6 (enc := enc) (C := Try.checked) false ⟨#[], #[.slice none 0 0, .slice none 0 0], []⟩ 8 (by kernel_rfl) (by kernel_rfl) (by kernel_rfl) (by kernel_rfl)) ?_
  intro W base args ds gs before hval0 hW hcnd hsz0 _
  have hval : ∀ (j : Nat) t v, Try.f3.params[j]? = some t → args[j]? = some v → Value.okWide Try.prog W .any base t v := hval0
  have hW' := hW
  obtain ⟨p, q, hA0, hV, rfl, hfz, hnd⟩ := hW
  have hA : DataW.TrodAll enc Try.prog W 0 (fun _ => true) true Try.f3.params.toList args.toList ds p := hA0
  rw [Try.params3] at hA hval
  obtain ⟨v0, vs0, d0, ds0, p0, q0, hargs, rfl, rfl, h0, r0⟩ := trodAll_cons hA
  obtain ⟨v1, vs1, d1, ds1, p1, q1, rfl, rfl, rfl, h1, r1⟩ := trodAll_cons r0
  obtain ⟨rfl, rfl, rfl⟩ := trodAll_nil r1
  obtain rfl : args = #[v0, v1] := by cases args; simp_all
  obtain ⟨rfl, rfl⟩ := trodVars_none hV
  obtain ⟨a0, len0, cap0, rfl⟩ := okWide_slice Try.underlying22 (hval 0 22 v0 rfl rfl)
  have k0 := h0
  have lt0 : ∀ x ∈ p0, x.block < W.heap.size := by obtain ⟨m, hm⟩ := k0; exact DataW.trod_lt m _ _ _ hm
  obtain ⟨l0, rfl, lc0, lr0, g0⟩ := slice_arg (opens_slice Try.underlying22 (by kernel_rfl) opensS32) h0
  obtain ⟨a1, len1, cap1, rfl⟩ := okWide_slice Try.underlying22 (hval 1 22 v1 rfl rfl)
  have k1 := h1
  have lt1 : ∀ x ∈ p1, x.block < W.heap.size := by obtain ⟨m, hm⟩ := k1; exact DataW.trod_lt m _ _ _ hm
  obtain ⟨l1, rfl, lc1, lr1, g1⟩ := slice_arg (opens_slice Try.underlying22 (by kernel_rfl) opensS32) h1
  clear hA0 hval0 hsz0
  obtain ⟨k, hP⟩ := Pure.PredsUnion l0 l1 g0 g1
  refine (PPredsUnion.lictorlaw03_PredsUnion.calls k (fun k_ => k_ < W.heap.size) _ _ l0 (fun k_ => k_ < W.heap.size) _ _ l1 true W (Kd.V_mk lc0 (Kd.C_F (Kd.heap_iso _ (Kd.heap_pair (Kd.heap_int .i64) (Kd.heap_pair (Kd.heap_int .i64) (Kd.heap_pair (Kd.heap_int .i64) (Kd.heap_pair (Kd.heap_int .i64) (Kd.heap_pair (Kd.heap_int .i64) (Kd.heap_pair (Kd.heap_int .i64) (Kd.heap_int .i64)))))))) lr0)) (Kd.V_mk lc1 (Kd.C_F (Kd.heap_iso _ (Kd.heap_pair (Kd.heap_int .i64) (Kd.heap_pair (Kd.heap_int .i64) (Kd.heap_pair (Kd.heap_int .i64) (Kd.heap_pair (Kd.heap_int .i64) (Kd.heap_pair (Kd.heap_int .i64) (Kd.heap_pair (Kd.heap_int .i64) (Kd.heap_int .i64)))))))) lr1)) hP).mono fun e W' he => ?_
  obtain ⟨he, hb_⟩ := he
  have bel : Below W.heap.size W W' := hb_
  subst he
  exact ⟨_, rfl, _, _, _, [], _, [], hW', trodAll_mk1 (shut_bool Try.underlying4 _), (trodAll_cons_mk (Below.trod laidOut (by kernel_rfl) (of_decide_eq_true (by kernel_rfl)) k0 bel lt0) (trodAll_cons_mk (Below.trod laidOut (by kernel_rfl) (of_decide_eq_true (by kernel_rfl)) k1 bel lt1) trodAll_mk0)), rfl, bel.frame _, fun h => by cases h⟩
theorem over : Rows.predsUnionRow.holds Try.pinned (OpenSpec.ofChange Rows.predsUnionSpec) :=
  OpenClaim.holds_of_wide 3 Try.f3 rfl rfl rfl rfl rfl rfl rfl ⟨rfl, rfl, rfl, rfl, rfl⟩ rfl rfl rfl rfl rfl (by kernel_rfl) Try.func3 (by kernel_rfl)
    (of_decide_eq_true (by kernel_rfl)) (by unfold Func.isWrapper; first | (rw [if_pos (by decide +kernel)]; kernel_rfl) | (rw [if_neg (by decide +kernel)]; exact ⟨rfl, rfl⟩))
    (fun os started H enc _ => lifted os started H enc)
theorem proved : Rows.PredsUnionSaid := over
end Go.Proofs.Ytmlgklklikgafaa.predsUnion

namespace Go.Proofs.Ytmlgklklikgafaa
theorem predsUnion_holds : Rows.PredsUnionSaid := predsUnion.proved
end Go.Proofs.Ytmlgklklikgafaa
