/- PredsUnion: the plain law. -/
import Derived.Test.YtmlgklklikgafaaSpecPredsUnion
import Derived.Test.YtmlgklklikgafaaPPredsUnionx
namespace Go.Proofs.Ytmlgklklikgafaa.Pure
open Go.RowKit Go.Proofs.Ytmlgklklikgafaa.PPredsUnion Go.Proofs.YtmlgklklikgafaaW.PrintWords Go.Proofs.YtmlgklklikgafaaW.PrintLast
set_option linter.unusedVariables false
set_option linter.unusedSimpArgs false
theorem eq_and (x y : S32) : (x.f0 == y.f0 && (x.f1 == y.f1 && (x.f2 == y.f2 && (x.f3 == y.f3 && (x.f4 == y.f4 && (x.f5 == y.f5 && (x.f6 == y.f6))))))) = true ↔ x = y := by
  cases x; cases y; simp
theorem has_go (c : S32) : ∀ (R P : List S32) (i : Int), i = P.length → P.length + R.length < 1000000 → Ev (fun k => lictorlaw03_has.l0 k (P ++ R) i c.f0 c.f1 c.f2 c.f3 c.f4 c.f5 c.f6) (decide (c ∈ R))
  | [], P, i, hi, hl => by
    refine Ev.step (f := fun _ => some false) (fun k => by rw [lictorlaw03_has.l0, if_neg (by simp; omega)]) ?_
    simpa using Ev.now false
  | x :: R, P, i, hi, hl => by
    simp only [List.length_cons] at hl
    have g : rd_T32 (P ++ x :: R) i = x := rd_at hi
    have w1 : wrap64 (i + 1) = i + 1 := PPredsUnion.wrap_small (by omega) (by omega)
    by_cases h : x = c
    · refine Ev.step (f := fun _ => some true) (fun k => by rw [lictorlaw03_has.l0, if_pos (by simp; omega), if_pos (by omega), g, if_pos ((eq_and x c).2 h)]) ?_
      simpa [h] using Ev.now true
    · refine Ev.step (f := fun k => lictorlaw03_has.l0 k (P ++ x :: R) (i + 1) c.f0 c.f1 c.f2 c.f3 c.f4 c.f5 c.f6) (fun k => by rw [lictorlaw03_has.l0, if_pos (by simp; omega), if_pos (by omega), g, if_neg (fun e => h ((eq_and x c).1 e)), w1]) ?_
      have := has_go c R (P ++ [x]) (i + 1) (by simp; omega) (by simp; omega)
      have e : decide (c ∈ x :: R) = decide (c ∈ R) := by rw [decide_eq_decide]; simp; exact fun e => absurd e.symm h
      rw [e]
      simpa using this
theorem has_ev (l : List S32) (c : S32) (hl : l.length < 100000) : Ev (fun k => lictorlaw03_has.f k l c.f0 c.f1 c.f2 c.f3 c.f4 c.f5 c.f6) (decide (c ∈ l)) :=
  has_go c l [] 0 rfl (by simp; omega)
theorem end_ev (a b u : List S32) (hb : b.length ≤ 120) (hu : u.length ≤ 240) (ga : ∀ x ∈ a, gS32 x) (gb : ∀ x ∈ b, gS32 x) (ho : (a ++ b).all ok1 = true) (hc : ¬ clash (a ++ b)) (hs : strict u) (hm : ∀ x, x ∈ u ↔ x ∈ a ++ b) :
    Ev (fun k => (preds_Minus.f k u b).bind fun t271 => ((preds_Union.f k (([t271, b] : List (List (S32))))).bind fun bt277 => ((lictorlaw03_alive.f k).bind fun t281 => (if t281 = true then ((preds_Right.f k u).bind fun t282 => (if t282 = true then (if bt277.2 = 0 then ((preds_Same.f k bt277.1 u).bind fun t283 => (some t283)) else (none)) else (none))) else (none))))) true := by
  have gu : ∀ x ∈ u, gS32 x := fun x hx => by
    rcases List.mem_append.1 ((hm x).1 hx) with h | h
    · exact ga x h
    · exact gb x h
  have lm : (mins u b).length ≤ u.length := List.length_filter_le _ _
  have mm : ∀ x, x ∈ mins u b ++ b ↔ x ∈ u := fun x => by
    simp only [mins, List.mem_append, List.mem_filter, decide_eq_true_eq, fnd_neg]
    constructor
    · rintro (h | h)
      · exact h.1
      · exact (hm x).2 (List.mem_append_right _ h)
    · intro h
      by_cases g : x ∈ b
      · exact Or.inr g
      · refine Or.inl ⟨h, fun y hy e => ?_⟩
        have : y = x := Classical.byContradiction fun ne => hc ⟨y, List.mem_append_right _ hy, x, (hm x).1 h, e, ne⟩
        exact g (this ▸ hy)
  have uo : ∀ x ∈ u, ok1 x = true := fun x hx => List.all_eq_true.1 ho x ((hm x).1 hx)
  obtain ⟨r, r1, r2, r3⟩ := union_ev (mins u b) b (by omega) (fun x hx => gu x ((mm x).1 (List.mem_append_left _ hx))) gb
  have al : (mins u b ++ b).all ok1 = true := List.all_eq_true.2 fun x hx => uo x ((mm x).1 hx)
  have cl : ¬ clash (mins u b ++ b) := fun ⟨x, hx, y, hy, e, ne⟩ => ne (strict_inj hs ((mm x).1 hx) ((mm y).1 hy) e)
  obtain ⟨e0, e1, e2⟩ := r1.good al cl
  have er : r.1 = u := strict_ext e1 hs (fun x => (e2 x).trans (mm x))
  refine Ev.bind (minus_ev u b (by omega) (by omega)) (Ev.bind r3 (Ev.bind alive_ev ?_))
  refine Ev.congr (fun k => by rw [if_pos rfl]) (Ev.bind (rt_ev u (by omega) gu) ?_)
  have hr : (rises u && u.all ok1) = true := by rw [(rises_strict u).2 hs, List.all_eq_true.2 uo]; rfl
  refine Ev.congr (fun k => by rw [if_pos hr, if_pos e0, er]) (Ev.bind (f := fun _ t => some t) (same_ev u u (by omega)) ?_)
  simpa using Ev.now true
theorem l2_ev (a b u : List S32) (ha : a.length ≤ 120) (hb : b.length ≤ 120) (hu : u.length ≤ 240) (ga : ∀ x ∈ a, gS32 x) (gb : ∀ x ∈ b, gS32 x) (ho : (a ++ b).all ok1 = true) (hc : ¬ clash (a ++ b)) (hs : strict u) (hm : ∀ x, x ∈ u ↔ x ∈ a ++ b) :
    ∀ (R P : List S32) (i : Int), u = P ++ R → i = P.length → Ev (fun k => lictorlaw03_PredsUnion.l2 k a b u i) true
  | [], P, i, e, hi => Ev.step (fun k => by rw [lictorlaw03_PredsUnion.l2, if_neg (by rw [e]; simp; omega)]) (end_ev a b u hb hu ga gb ho hc hs hm)
  | x :: R, P, i, e, hi => by
    have li : i < u.length := by rw [e]; simp; omega
    have g : rd_T32 u i = x := by rw [e]; exact rd_at hi
    have w1 : wrap64 (i + 1) = i + 1 := PPredsUnion.wrap_small (by omega) (by omega)
    have ih := l2_ev a b u ha hb hu ga gb ho hc hs hm R (P ++ [x]) (i + 1) (by rw [e]; simp) (by simp; omega)
    have mx : x ∈ a ++ b := (hm x).1 (by rw [e]; simp)
    refine Ev.step (fun k => by rw [lictorlaw03_PredsUnion.l2, if_pos li, if_pos (by omega), g, w1]) (Ev.bind (has_ev a x (by omega)) (Ev.bind (has_ev b x (by omega)) ?_))
    by_cases h : x ∈ a
    · exact Ev.congr (fun k => by rw [if_pos (decide_eq_true h)]) ih
    · have h2 : x ∈ b := (List.mem_append.1 mx).resolve_left h
      exact Ev.congr (fun k => by rw [if_neg (by simpa using h), if_pos (decide_eq_true h2)]) ih
theorem l1_ev (a b u : List S32) (ha : a.length ≤ 120) (hb : b.length ≤ 120) (hu : u.length ≤ 240) (ga : ∀ x ∈ a, gS32 x) (gb : ∀ x ∈ b, gS32 x) (ho : (a ++ b).all ok1 = true) (hc : ¬ clash (a ++ b)) (hs : strict u) (hm : ∀ x, x ∈ u ↔ x ∈ a ++ b) :
    ∀ (R P : List S32) (i : Int), b = P ++ R → i = P.length → Ev (fun k => lictorlaw03_PredsUnion.l1 k a b u i) true
  | [], P, i, e, hi => Ev.step (fun k => by rw [lictorlaw03_PredsUnion.l1, if_neg (by rw [e]; simp; omega)]) (l2_ev a b u ha hb hu ga gb ho hc hs hm u [] 0 rfl rfl)
  | x :: R, P, i, e, hi => by
    have li : i < b.length := by rw [e]; simp; omega
    have g : rd_T32 b i = x := by rw [e]; exact rd_at hi
    have w1 : wrap64 (i + 1) = i + 1 := PPredsUnion.wrap_small (by omega) (by omega)
    have ih := l1_ev a b u ha hb hu ga gb ho hc hs hm R (P ++ [x]) (i + 1) (by rw [e]; simp) (by simp; omega)
    have mx : x ∈ u := (hm x).2 (by rw [e]; simp)
    refine Ev.step (fun k => by rw [lictorlaw03_PredsUnion.l1, if_pos li, if_pos (by omega), g, w1]) (Ev.bind (has_ev u x (by omega)) ?_)
    exact Ev.congr (fun k => by rw [if_pos (decide_eq_true mx)]) ih
theorem l0_ev (a b u : List S32) (ha : a.length ≤ 120) (hb : b.length ≤ 120) (hu : u.length ≤ 240) (ga : ∀ x ∈ a, gS32 x) (gb : ∀ x ∈ b, gS32 x) (ho : (a ++ b).all ok1 = true) (hc : ¬ clash (a ++ b)) (hs : strict u) (hm : ∀ x, x ∈ u ↔ x ∈ a ++ b) :
    ∀ (R P : List S32) (i : Int), a = P ++ R → i = P.length → Ev (fun k => lictorlaw03_PredsUnion.l0 k a b u i) true
  | [], P, i, e, hi => Ev.step (fun k => by rw [lictorlaw03_PredsUnion.l0, if_neg (by rw [e]; simp; omega)]) (l1_ev a b u ha hb hu ga gb ho hc hs hm b [] 0 rfl rfl)
  | x :: R, P, i, e, hi => by
    have li : i < a.length := by rw [e]; simp; omega
    have g : rd_T32 a i = x := by rw [e]; exact rd_at hi
    have w1 : wrap64 (i + 1) = i + 1 := PPredsUnion.wrap_small (by omega) (by omega)
    have ih := l0_ev a b u ha hb hu ga gb ho hc hs hm R (P ++ [x]) (i + 1) (by rw [e]; simp) (by simp; omega)
    have mx : x ∈ u := (hm x).2 (by rw [e]; simp)
    refine Ev.step (fun k => by rw [lictorlaw03_PredsUnion.l0, if_pos li, if_pos (by omega), g, w1]) (Ev.bind (has_ev u x (by omega)) ?_)
    exact Ev.congr (fun k => by rw [if_pos (decide_eq_true mx)]) ih
theorem turned {a b : List S32} {r : List S32 × Int} (h : OfSpec (b ++ a) r) : OfSpec (a ++ b) r := by
  have e : (b ++ a).all ok1 = (a ++ b).all ok1 := by simp [Bool.and_comm]
  have m : ∀ x, x ∈ b ++ a ↔ x ∈ a ++ b := fun x => by simp [or_comm]
  have c : clash (a ++ b) → clash (b ++ a) := fun ⟨x, hx, y, hy, q⟩ => ⟨x, (m x).2 hx, y, (m y).2 hy, q⟩
  have c' : clash (b ++ a) → clash (a ++ b) := fun ⟨x, hx, y, hy, q⟩ => ⟨x, (m x).1 hx, y, (m y).1 hy, q⟩
  exact ⟨fun q => h.bad (e.trans q), fun q k => h.twice (e.trans q) (c k), fun q k => by obtain ⟨p1, p2, p3⟩ := h.good (e.trans q) (fun z => k (c' z)); exact ⟨p1, p2, fun x => (p3 x).trans (m x)⟩⟩
theorem PredsUnion : lictorlaw03_PredsUnion.Pure := by
  intro a b ⟨_, ga⟩ ⟨_, gb⟩
  apply Ev.rounds
  have al : Ev (fun k => lictorlaw03_PredsUnion.j0 k a b true) true :=
    Ev.step (f := fun k => (lictorlaw03_alive.f k).bind fun t324 => (some t324)) (fun k => by rw [lictorlaw03_PredsUnion.j0, if_pos rfl]) (Ev.bind (f := fun _ t => some t) alive_ev (Ev.now _))
  by_cases ha : (a.length : Int) > 120
  · exact Ev.congr (fun k => by rw [lictorlaw03_PredsUnion.f, if_pos ha]) al
  by_cases hb : (b.length : Int) > 120
  · exact Ev.congr (fun k => by rw [lictorlaw03_PredsUnion.f, if_neg ha, decide_eq_true hb]) al
  refine Ev.congr (fun k => by rw [lictorlaw03_PredsUnion.f, if_neg ha, decide_eq_false hb]) ?_
  refine Ev.step (fun k => by rw [lictorlaw03_PredsUnion.j0, if_neg (by simp)]) ?_
  obtain ⟨u, u1, u2, u3⟩ := union_ev a b (by omega) ga gb
  obtain ⟨v, v1, v2, v3⟩ := union_ev b a (by omega) gb ga
  obtain rfl := u1.one (turned v1)
  refine Ev.bind u3 (Ev.bind v3 ?_)
  have lu : u.1.length ≤ 240 := by simp at u2; omega
  refine Ev.congr (fun k => by rw [if_pos rfl]) (Ev.bind (same_ev u.1 u.1 (by omega)) ?_)
  refine Ev.step (fun k => by rw [lictorlaw03_PredsUnion.j1, if_neg (by simp)]) ?_
  have bad : u.2 ≠ 0 → u.1 = [] → Ev (fun k => if u.2 = 0 then (lictorlaw03_PredsUnion.l0 k a b u.1 0) else ((lictorlaw03_alive.f k).bind fun t262 => (if t262 = true then (some ((u.1.length : Int) == 0)) else (none)))) true := fun h h' =>
    Ev.congr (fun k => by rw [if_neg h]) (Ev.bind alive_ev (by rw [h']; exact Ev.now _))
  cases ho : (a ++ b).all ok1 with
  | false => have := u1.bad ho; exact bad (by rw [this]; decide) (by rw [this])
  | true =>
    by_cases hc : clash (a ++ b)
    · have := u1.twice ho hc; exact bad (by rw [this]; decide) (by rw [this])
    · obtain ⟨e0, e1, e2⟩ := u1.good ho hc
      exact Ev.congr (fun k => by rw [if_pos e0]) (l0_ev a b u.1 (by omega) (by omega) lu ga gb ho hc e1 e2 a [] 0 rfl rfl)
end Go.Proofs.Ytmlgklklikgafaa.Pure
