/- PredsTells: the plain law. -/
import Derived.Test.YtmlgklklikgafaaSpecPredsTells
import Derived.Test.YtmlgklklikgafaaPPredsTellsx
namespace Go.Proofs.Ytmlgklklikgafaa.Pure
open Go.RowKit Go.Proofs.Ytmlgklklikgafaa.PPredsTells Go.Proofs.YtmlgklklikgafaaW.PrintWords Go.Proofs.YtmlgklklikgafaaW.PrintLast
set_option linter.unusedVariables false
set_option linter.unusedSimpArgs false
theorem last_ev (a b : List S32) (id : Int) (ha : a.length ≤ 120) (hb : b.length ≤ 120) (ga : ∀ x ∈ a, gS32 x) : Ev (fun k => lictorlaw03_PredsTells.j2 k a b false) true := by
  refine Ev.step (fun k => by rw [lictorlaw03_PredsTells.j2, if_neg (by simp)]) ?_
  refine Ev.bind (minus_ev a b (by omega) (by omega)) ?_
  refine Ev.bind (minus_ref a b (by omega) (by omega)) ?_
  have lm : (mins a b).length ≤ a.length := List.length_filter_le _ _
  refine Ev.bind (same_ref (mins a b) (mins a b) (by omega)) ?_
  refine Ev.bind (ids_ev a (by omega)) ?_
  refine Ev.bind (ids_ref a (by omega)) ?_
  refine Ev.bind (sids_ref (a.map (·.f0)) (by simp; omega)) ?_
  refine Ev.bind alive_ev ?_
  refine Ev.congr (fun k => by rw [if_pos rfl, if_pos (by simp), if_pos rfl]) ?_
  refine Ev.bind (rt_ev a (by omega) ga) ?_
  refine Ev.bind (rt_ref a (by omega)) ?_
  refine Ev.congr (fun k => by rw [if_pos (by simp)]) ?_
  refine Ev.bind (same_ev a b (by omega)) ?_
  refine Ev.bind (same_ref a b (by omega)) ?_
  simpa using Ev.now true
theorem find_law (a b : List S32) (id : Int) (ha : a.length ≤ 120) (hb : b.length ≤ 120) (ga : ∀ x ∈ a, gS32 x) : Ev (fun k => lictorlaw03_PredsTells.j1 k a b id false) true := by
  have L := last_ev a b id ha hb ga
  refine Ev.step (fun k => by rw [lictorlaw03_PredsTells.j1, if_neg (by simp), find_eq a id (by omega)]) ?_
  have hf := find_ref a id (by omega)
  by_cases h : fnd a id 0 < 0
  · simp only [preds_Find.g, if_pos h, Option.bind_some]
    refine Ev.bind hf ?_
    refine Ev.congr (fun k => ?_) L
    rw [decide_eq_false (by omega)]; rfl
  · simp only [preds_Find.g, if_neg h, Option.bind_some]
    refine Ev.bind hf ?_
    have hl : fnd a id 0 < a.length := by
      rcases fnd_spec id a 0 (by omega) with ⟨h1, _⟩ | ⟨A, y, B, e, _, _, h4⟩
      · omega
      · rw [h4, e]; simp; omega
    refine Ev.congr (fun k => ?_) L
    rw [decide_eq_true (by omega), if_neg (by simp), if_pos trivial, if_pos (by omega), if_pos hl, if_neg (by simp)]
theorem PredsTells : lictorlaw03_PredsTells.Pure := by
  intro a b id ⟨_, ga⟩ ⟨_, gb⟩ _
  apply Ev.rounds
  have al : Ev (fun k => lictorlaw03_PredsTells.j0 k a b id true) true :=
    Ev.step (f := fun k => (lictorlaw03_alive.f k).bind fun t324 => (some t324)) (fun k => by rw [lictorlaw03_PredsTells.j0, if_pos rfl]) (Ev.bind (f := fun _ t => some t) alive_ev (Ev.now _))
  by_cases ha : (a.length : Int) > 120
  · exact Ev.congr (fun k => by rw [lictorlaw03_PredsTells.f, if_pos ha]) al
  by_cases hb : (b.length : Int) > 120
  · exact Ev.congr (fun k => by rw [lictorlaw03_PredsTells.f, if_neg ha, decide_eq_true hb]) al
  refine Ev.congr (fun k => by rw [lictorlaw03_PredsTells.f, if_neg ha, decide_eq_false hb]) ?_
  refine Ev.step (fun k => by rw [lictorlaw03_PredsTells.j0, if_neg (by simp)]) ?_
  obtain ⟨r, r1, r2, r3⟩ := of_ev a (by omega) ga
  obtain ⟨r', s1, s2⟩ := of_ref a (by omega)
  obtain rfl := r1.one s1
  obtain ⟨u, u1, u2, u3⟩ := union_ev a b (by omega) ga gb
  obtain ⟨u', v1, v2⟩ := union_ref a b (by omega)
  obtain rfl := u1.one v1
  refine Ev.bind r3 (Ev.bind s2 (Ev.bind u3 (Ev.bind v2 ?_)))
  refine Ev.congr (fun k => by rw [if_pos rfl, if_pos rfl]) ?_
  refine Ev.bind (same_ref r.1 r.1 (by omega)) ?_
  refine Ev.congr (fun k => by rw [if_pos (by simp)]) ?_
  refine Ev.bind (same_ref u.1 u.1 (by simp at u2; omega)) ?_
  refine Ev.congr (fun k => ?_) (find_law a b id (by omega) (by omega) ga)
  simp
end Go.Proofs.Ytmlgklklikgafaa.Pure
