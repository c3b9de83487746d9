import Derived.Test.YtmlgklklikgafaaSortPredsTells
import Derived.DataShut
import Derived.Test.YtmlgklklikgafaaPPredsTellsx7
import Derived.Test.YtmlgklklikgafaaPPredsTellsx8
import Derived.Test.YtmlgklklikgafaaPPredsTellsx9
import Derived.Test.YtmlgklklikgafaaPPredsTellsx10
import Derived.Test.YtmlgklklikgafaaPPredsTellsx11
namespace Go.Proofs.Ytmlgklklikgafaa.PPredsTells
open Go.RowKit Go.Proofs.YtmlgklklikgafaaW.PrintWords
set_option linter.unusedVariables false
set_option linter.unusedSimpArgs false
/-! one element -/
theorem wfb {n : Int} (h : (Lit.int .i64 n).wf = true) : -9223372036854775808 ≤ n ∧ n ≤ 9223372036854775807 := by
  have := (Lit.wf_int_iff .i64 n).1 h
  simpa [IntKind.min, IntKind.max, IntKind.signed, IntKind.bits] using this
def nm (n : Int) : Bool := decide (16 ≤ n ∧ n < 4112 ∧ n % 16 ≤ 8)
def wi (n : Int) : Bool := decide (0 ≤ n ∧ n ≤ 1048576)
def ok1 (x : S32) : Bool :=
  nm x.f0 && decide (0 ≤ x.f2 ∧ x.f2 ≤ 3) &&
    (if x.f1 = 0 then x.f3 == 0 && decide (x.f4 = 0 ∨ x.f4 = 1) && wi x.f5 && wi x.f6
     else if x.f1 = 1 then nm x.f3 && x.f4 == 0 && x.f5 == 0 && x.f6 == 0
     else if x.f1 = 2 then nm x.f3 && x.f4 == 0 && x.f5 == 0 && wi x.f6 else false)
theorem tdiv16 {n : Int} (h : 16 ≤ n) : n.tdiv 16 = n / 16 := Int.tdiv_eq_ediv_of_nonneg (by omega)
theorem tmod16 {n : Int} (h : 16 ≤ n) : n.tmod 16 = n % 16 := Int.tmod_eq_emod_of_nonneg (by omega)
theorem named_eq {n : Int} (h : n ≤ 9223372036854775807) : cmd_named.f n = some (nm n) := by
  unfold cmd_named.f nm
  by_cases h1 : n ≥ 16
  · rw [if_pos h1, tdiv16 h1, tmod16 h1, wrap_small (by omega) (by omega)]
    by_cases h2 : n / 16 ≤ 256
    · rw [if_pos h2]; congr 1; rw [decide_eq_decide]; omega
    · rw [if_neg h2]; congr 1; symm; rw [decide_eq_false_iff_not]; omega
  · rw [if_neg h1]; congr 1; symm; rw [decide_eq_false_iff_not]; omega
theorem named_ref (n : Int) : lictorref02_Named.f n = some (nm n) := by
  unfold lictorref02_Named.f nm
  by_cases h1 : n ≥ 16
  · rw [if_pos h1, tmod16 h1]
    by_cases h2 : n < 4112
    · rw [if_pos h2]; congr 1; rw [decide_eq_decide]; omega
    · rw [if_neg h2]; congr 1; symm; rw [decide_eq_false_iff_not]; omega
  · rw [if_neg h1]; congr 1; symm; rw [decide_eq_false_iff_not]; omega
theorem few_eq (n m : Int) : cmd_few.f n m = some (decide (0 ≤ n ∧ n ≤ m)) := by
  unfold cmd_few.f
  by_cases h : n ≥ 0
  · rw [if_pos h]; congr 1; rw [decide_eq_decide]; omega
  · rw [if_neg h]; congr 1; symm; rw [decide_eq_false_iff_not]; omega
theorem in_ref (n : Int) : lictorref02_in.f n = some (wi n) := by
  unfold lictorref02_in.f wi
  by_cases h : n ≥ 0
  · rw [if_pos h]; congr 1; rw [decide_eq_decide]; omega
  · rw [if_neg h]; congr 1; symm; rw [decide_eq_false_iff_not]; omega
theorem bare_eq (x : S32) : ((cmd_bare.f x.f0 x.f1 x.f2 x.f3 x.f4 x.f5 x.f6).bind fun b => (some (b.1 == 0 && (b.2.1 == 0 && (b.2.2.1 == 0 && (b.2.2.2.1 == 0 && (b.2.2.2.2.1 == 0 && (b.2.2.2.2.2.1 == 0 && (b.2.2.2.2.2.2 == 0))))))))) =
    some (if x.f1 = 0 then x.f3 == 0 else if x.f1 = 2 then x.f4 == 0 && x.f5 == 0 else x.f4 == 0 && (x.f5 == 0 && x.f6 == 0)) := by
  unfold cmd_bare.f
  by_cases h : x.f1 = 0
  · rw [if_pos h, if_pos h]; simp
  · by_cases h2 : x.f1 = 2
    · rw [if_neg h, if_neg h, if_pos h2, if_pos h2]; simp
    · rw [if_neg h, if_neg h, if_neg h2, if_neg h2]; simp
theorem right_eq (x : S32) (g : gS32 x) : cmd_right.f x.f0 x.f1 x.f2 x.f3 x.f4 x.f5 x.f6 = some (ok1 x) := by
  obtain ⟨g0, _, _, g3, _, _, _⟩ := g
  unfold cmd_right.f
  simp only [named_eq (wfb g0).2, named_eq (wfb g3).2, few_eq, bare_eq, Option.bind_some]
  unfold ok1 wi
  cases nm x.f0
  · rfl
  simp only [if_true, Bool.true_and]
  by_cases h2 : 0 ≤ x.f2 ∧ x.f2 ≤ 3
  case neg => rw [decide_eq_false h2]; rfl
  rw [decide_eq_true h2]
  simp only [if_true, Bool.true_and]
  by_cases h1 : 0 ≤ x.f1 ∧ x.f1 ≤ 2
  case neg => rw [decide_eq_false h1]; simp only [Bool.false_eq_true, if_false]; rw [if_neg (by omega), if_neg (by omega), if_neg (by omega)]
  rw [decide_eq_true h1]
  simp only [if_true]
  rcases (by omega : x.f1 = 0 ∨ x.f1 = 1 ∨ x.f1 = 2) with e | e | e
  · simp only [e, if_true]
    by_cases h4 : 0 ≤ x.f4 ∧ x.f4 ≤ 1 <;> by_cases h5 : 0 ≤ x.f5 ∧ x.f5 ≤ 1048576 <;> by_cases h6 : 0 ≤ x.f6 ∧ x.f6 ≤ 1048576 <;> simp [h4, h5, h6] <;> grind
  · rw [e]
    cases nm x.f3 <;> by_cases h4 : 0 ≤ x.f4 ∧ x.f4 ≤ 1 <;> by_cases h5 : 0 ≤ x.f5 ∧ x.f5 ≤ 1048576 <;> by_cases h6 : 0 ≤ x.f6 ∧ x.f6 ≤ 1048576 <;> simp [h4, h5, h6] <;> grind
  · rw [e]
    cases nm x.f3 <;> by_cases h4 : 0 ≤ x.f4 ∧ x.f4 ≤ 1 <;> by_cases h5 : 0 ≤ x.f5 ∧ x.f5 ≤ 1048576 <;> by_cases h6 : 0 ≤ x.f6 ∧ x.f6 ≤ 1048576 <;> simp [h4, h5, h6] <;> grind
theorem one_ref (k : Nat) (x : S32) : lictorref02_One.f (k + 1) x.f0 x.f1 x.f2 x.f3 x.f4 x.f5 x.f6 = some (ok1 x) := by
  unfold lictorref02_One.f
  simp only [named_ref, in_ref, Option.bind_some, lictorref02_One.j0]
  unfold ok1
  cases nm x.f0 <;> cases nm x.f3 <;> cases wi x.f5 <;> cases h6 : wi x.f6 <;> simp [wi] at * <;> grind
theorem one_ev (x : S32) : Ev (fun k => lictorref02_One.f k x.f0 x.f1 x.f2 x.f3 x.f4 x.f5 x.f6) (ok1 x) := ⟨1, fun k hk => by obtain ⟨m, rfl⟩ : ∃ m, k = m + 1 := ⟨k - 1, by omega⟩; exact one_ref m x⟩
theorem neq_or (x y : S32) : (!(x.f0 == y.f0) || (!(x.f1 == y.f1) || (!(x.f2 == y.f2) || (!(x.f3 == y.f3) || (!(x.f4 == y.f4) || (!(x.f5 == y.f5) || (!(x.f6 == y.f6)))))))) = true ↔ x ≠ y := by
  cases x; cases y; simp; grind
instance : DecidableEq S32 := fun x y => decidable_of_iff (sEq x y = true) sEq_iff
/-! where a name stands -/
def fnd : List S32 → Int → Int → Int
  | [], _, _ => -1
  | x :: l, id, i => if x.f0 = id then i else fnd l id (i + 1)
theorem fnd_spec (id : Int) : ∀ (l : List S32) (i : Int), 0 ≤ i → (fnd l id i = -1 ∧ ∀ x ∈ l, x.f0 ≠ id) ∨ ∃ A x B, l = A ++ x :: B ∧ x.f0 = id ∧ (∀ y ∈ A, y.f0 ≠ id) ∧ fnd l id i = i + A.length
  | [], i, hi => Or.inl ⟨rfl, by simp⟩
  | x :: l, i, hi => by
    by_cases h : x.f0 = id
    · exact Or.inr ⟨[], x, l, rfl, h, by simp, by simp [fnd, h]⟩
    · rcases fnd_spec id l (i + 1) (by omega) with ⟨h1, h2⟩ | ⟨A, y, B, rfl, h2, h3, h4⟩
      · exact Or.inl ⟨by simp [fnd, h, h1], by intro y hy; rcases List.mem_cons.1 hy with rfl | hy; exact h; exact h2 y hy⟩
      · refine Or.inr ⟨x :: A, y, B, rfl, h2, ?_, ?_⟩
        · intro z hz; rcases List.mem_cons.1 hz with rfl | hz; exact h; exact h3 z hz
        · simp only [fnd, h, if_false, h4, List.length_cons]; omega
theorem fnd_neg {l : List S32} {id : Int} : fnd l id 0 < 0 ↔ ∀ x ∈ l, x.f0 ≠ id := by
  rcases fnd_spec id l 0 (by omega) with ⟨h1, h2⟩ | ⟨A, x, B, rfl, h2, h3, h4⟩
  · exact ⟨fun _ => h2, fun _ => by omega⟩
  · exact ⟨fun h => by omega, fun h => absurd h2 (h x (by simp))⟩
theorem idxs_fnd (id : Int) : ∀ (l : List S32) (i : Int), idxs (fun x => some (x.f0 == id)) l i = some (fnd l id i)
  | [], i => rfl
  | x :: l, i => by
    simp only [idxs, Option.bind_some, fnd]
    by_cases h : x.f0 = id
    · simp [h]
    · simp [h, idxs_fnd id l (i + 1)]
theorem find_go (id : Int) : ∀ (R P : List S32) (i : Int), i = P.length → P.length + R.length < 4000000000000000000 → Ev (fun k => lictorref03_Find.l0 k (P ++ R) id i) (fnd R id i)
  | [], P, i, hi, hl => Ev.step (f := fun _ => some (-1)) (fun k => by rw [lictorref03_Find.l0, if_neg (by simp; omega)]) (Ev.now _)
  | x :: R, P, i, hi, hl => by
    simp only [List.length_cons] at hl
    have g : rd_T32 (P ++ x :: R) i = x := rd_at hi
    have w1 : wrap64 (i + 1) = i + 1 := wrap_small (by omega) (by omega)
    by_cases h : x.f0 = id
    · refine Ev.step (f := fun _ => some i) (fun k => by rw [lictorref03_Find.l0, if_pos (by simp; omega), if_pos (by omega), g, if_pos h]) ?_
      simp only [fnd, h, if_true]; exact Ev.now _
    · refine Ev.step (f := fun k => lictorref03_Find.l0 k (P ++ x :: R) id (i + 1)) (fun k => by rw [lictorref03_Find.l0, if_pos (by simp; omega), if_pos (by omega), g, if_neg h, w1]) ?_
      have := find_go id R (P ++ [x]) (i + 1) (by simp; omega) (by simp; omega)
      simpa [fnd, h] using this
theorem find_ref (l : List S32) (id : Int) (hl : l.length < 4000000000000000000) : Ev (fun k => lictorref03_Find.f k l id) (fnd l id 0) := by
  exact find_go id l [] 0 rfl (by simpa using hl)
/-! may all be? -/
theorem idxs_all (p : S32 → Bool) : ∀ (l : List S32) (i : Int), 0 ≤ i → (∃ r, idxs (fun x => some (p x)) l i = some r ∧ (decide (r ≥ 0)) = l.any p)
  | [], i, hi => ⟨-1, rfl, rfl⟩
  | x :: l, i, hi => by
    simp only [idxs, Option.bind_some, List.any_cons]
    by_cases h : p x = true
    · exact ⟨i, by simp [h], by simp [h, hi]⟩
    · obtain ⟨r, h1, h2⟩ := idxs_all p l (i + 1) (by omega)
      exact ⟨r, by simp [h, h1], by simp [h, h2]⟩
theorem idxs_congr {p q : S32 → Option Bool} : ∀ (l : List S32) (i : Int), (∀ x ∈ l, p x = q x) → idxs p l i = idxs q l i
  | [], i, _ => rfl
  | x :: l, i, h => by simp only [idxs]; rw [h x (by simp), idxs_congr l (i + 1) (fun y hy => h y (by simp [hy]))]
theorem cmdRight_eq (l : List S32) (hl : l.length < 4000000000000000000) (g : ∀ x ∈ l, gS32 x) : preds_cmdRight.f l = some (l.all ok1) := by
  unfold preds_cmdRight.f cmd_Right.f cmd_Right.g
  rw [if_pos (by omega), idxs_congr (q := fun x => some (!(ok1 x))) l 0 (fun x hx => by rw [right_eq x (g x hx)]; rfl)]
  obtain ⟨r, h1, h2⟩ := idxs_all (fun x => !(ok1 x)) l 0 (by omega)
  rw [h1]
  simp only [Option.bind_some, h2]
  rw [List.all_eq_not_any_not]
theorem right_go : ∀ (R P : List S32) (i : Int), i = P.length → P.length + R.length < 4000000000000000000 → Ev (fun k => lictorref02_Right.l0 k (P ++ R) i) (R.all ok1)
  | [], P, i, hi, hl => Ev.step (f := fun _ => some true) (fun k => by rw [lictorref02_Right.l0, if_neg (by simp; omega)]) (Ev.now _)
  | x :: R, P, i, hi, hl => by
    simp only [List.length_cons] at hl
    have g : rd_T32 (P ++ x :: R) i = x := rd_at hi
    have w1 : wrap64 (i + 1) = i + 1 := wrap_small (by omega) (by omega)
    refine Ev.step (f := fun k => (lictorref02_One.f k x.f0 x.f1 x.f2 x.f3 x.f4 x.f5 x.f6).bind fun t251 => (if t251 = true then (lictorref02_Right.l0 k (P ++ x :: R) (i + 1)) else (some false))) (fun k => by rw [lictorref02_Right.l0, if_pos (by simp; omega), if_pos (by omega), g, w1]) ?_
    refine Ev.bind (one_ev x) ?_
    cases h : ok1 x with
    | false => simp only [List.all_cons, h]; exact Ev.now _
    | true =>
      have := right_go R (P ++ [x]) (i + 1) (by simp; omega) (by simp; omega)
      simpa [h] using this
theorem right_ref (l : List S32) (hl : l.length < 4000000000000000000) : Ev (fun k => lictorref02_Right.f k l) (l.all ok1) := by
  exact right_go l [] 0 rfl (by simpa using hl)
/-! are two the same? -/
theorem same_go : ∀ (R R' P P' : List S32) (i : Int), i = P.length → P.length = P'.length → R.length = R'.length → P.length + R.length < 4000000000000000000 → Ev (fun k => lictorref02_Same.l0 k (P ++ R) (P' ++ R') i) (decide (R = R'))
  | [], R', P, P', i, hi, hp, hr, hl => by
    obtain rfl := List.length_eq_zero_iff.1 hr.symm
    exact Ev.step (f := fun _ => some true) (fun k => by rw [lictorref02_Same.l0, if_neg (by simp; omega)]) (Ev.now _)
  | x :: R, [], P, P', i, hi, hp, hr, hl => by simp at hr
  | x :: R, y :: R', P, P', i, hi, hp, hr, hl => by
    simp only [List.length_cons] at hl hr
    have g1 : rd_T32 (P ++ x :: R) i = x := rd_at hi
    have g2 : rd_T32 (P' ++ y :: R') i = y := rd_at (by omega)
    have w1 : wrap64 (i + 1) = i + 1 := wrap_small (by omega) (by omega)
    by_cases h : x = y
    · refine Ev.step (f := fun k => lictorref02_Same.l0 k (P ++ x :: R) (P' ++ y :: R') (i + 1)) (fun k => by rw [lictorref02_Same.l0, if_pos (by simp; omega), if_pos (by omega), if_pos (by simp; omega), g1, g2, if_neg (by rw [neq_or]; simpa using h), w1]) ?_
      have := same_go R R' (P ++ [x]) (P' ++ [y]) (i + 1) (by simp; omega) (by simp; omega) (by omega) (by simp; omega)
      simpa [h] using this
    · refine Ev.step (f := fun _ => some false) (fun k => by rw [lictorref02_Same.l0, if_pos (by simp; omega), if_pos (by omega), if_pos (by simp; omega), g1, g2, if_pos (by rw [neq_or]; exact h)]) ?_
      simpa [h] using Ev.now _
theorem same_ref (a b : List S32) (ha : a.length < 4000000000000000000) : Ev (fun k => lictorref02_Same.f k a b) (decide (a = b)) := by
  by_cases h : a.length = b.length
  · have := same_go a b [] [] 0 rfl rfl h (by simpa using ha)
    refine Ev.congr (fun k => by rw [lictorref02_Same.f, if_pos (by omega)]) (by simpa using this)
  · refine Ev.congr (f := fun _ => some false) (fun k => by rw [lictorref02_Same.f, if_neg (by omega)]) ?_
    have : ¬ a = b := fun e => h (by rw [e])
    simpa [this] using Ev.now _
theorem equal_go (n : Int) : ∀ (R R' P P' : List S32) (i : Int), i = P.length → n = P.length + R.length → P.length = P'.length → R.length = R'.length → P.length + R.length < 4000000000000000000 → Ev (fun k => api_Cmd_23.l0 k (P ++ R) (P' ++ R') n i) (decide (R = R'))
  | [], R', P, P', i, hi, hn, hp, hr, hl => by
    obtain rfl := List.length_eq_zero_iff.1 hr.symm
    exact Ev.step (f := fun _ => some true) (fun k => by rw [api_Cmd_23.l0, if_neg (by simp at hn; omega)]) (Ev.now _)
  | x :: R, [], P, P', i, hi, hn, hp, hr, hl => by simp at hr
  | x :: R, y :: R', P, P', i, hi, hn, hp, hr, hl => by
    simp only [List.length_cons] at hl hr hn
    have g1 : rd_T32 (P ++ x :: R) i = x := rd_at hi
    have g2 : rd_T32 (P' ++ y :: R') i = y := rd_at (by omega)
    have w1 : wrap64 (i + 1) = i + 1 := wrap_small (by omega) (by omega)
    by_cases h : x = y
    · refine Ev.step (f := fun k => api_Cmd_23.l0 k (P ++ x :: R) (P' ++ y :: R') n (i + 1)) (fun k => by rw [api_Cmd_23.l0, if_pos (by omega), if_pos (by omega), if_pos (by simp; omega), if_pos (by simp; omega), g1, g2, if_neg (by rw [neq_or]; simpa using h), w1]) ?_
      have := equal_go n R R' (P ++ [x]) (P' ++ [y]) (i + 1) (by simp; omega) (by simp; omega) (by simp; omega) (by omega) (by simp; omega)
      simpa [h] using this
    · refine Ev.step (f := fun _ => some false) (fun k => by rw [api_Cmd_23.l0, if_pos (by omega), if_pos (by omega), if_pos (by simp; omega), if_pos (by simp; omega), g1, g2, if_pos (by rw [neq_or]; exact h)]) ?_
      simpa [h] using Ev.now _
theorem same_ev (a b : List S32) (ha : a.length < 4000000000000000000) : Ev (fun k => preds_Same.f k a b) (decide (a = b)) := by
  refine Ev.bind (f := fun _ t => some t) (a := decide (a = b)) ?_ (Ev.now _)
  by_cases h : a.length = b.length
  · have := equal_go a.length a b [] [] 0 rfl (by simp) rfl h (by simpa using ha)
    refine Ev.congr (fun k => by rw [api_Cmd_23.f, if_pos (by omega)]) (by simpa using this)
  · refine Ev.congr (f := fun _ => some false) (fun k => by rw [api_Cmd_23.f, if_neg (by omega)]) ?_
    have : ¬ a = b := fun e => h (by rw [e])
    simpa [this] using Ev.now _
/-! sets -/
def strict (l : List S32) : Prop := l.Pairwise (fun x y => x.f0 < y.f0)
def clash (l : List S32) : Prop := ∃ x ∈ l, ∃ y ∈ l, x.f0 = y.f0 ∧ x ≠ y
theorem strict_inj {l : List S32} (h : strict l) {x y : S32} (hx : x ∈ l) (hy : y ∈ l) (e : x.f0 = y.f0) : x = y := by
  induction l with
  | nil => simp at hx
  | cons a l ih =>
    have h1 := List.pairwise_cons.1 h
    rcases List.mem_cons.1 hx with h2 | h2 <;> rcases List.mem_cons.1 hy with h3 | h3
    · rw [h2, h3]
    · have := h1.1 y h3; rw [h2] at e; omega
    · have := h1.1 x h2; rw [h3] at e; omega
    · exact ih h1.2 h2 h3
theorem strict_ext : ∀ {a b : List S32}, strict a → strict b → (∀ x, x ∈ a ↔ x ∈ b) → a = b
  | [], [], _, _, _ => rfl
  | [], y :: b, _, _, h => absurd ((h y).2 (by simp)) (by simp)
  | x :: a, [], _, _, h => absurd ((h x).1 (by simp)) (by simp)
  | x :: a, y :: b, ha, hb, h => by
    have ha' := List.pairwise_cons.1 ha
    have hb' := List.pairwise_cons.1 hb
    have e : x = y := by
      rcases List.mem_cons.1 ((h x).1 (by simp)) with e | h1
      · exact e
      · rcases List.mem_cons.1 ((h y).2 (by simp)) with e | h2
        · exact e.symm
        · have := ha'.1 y h2; have := hb'.1 x h1; omega
    subst e
    congr 1
    refine strict_ext ha'.2 hb'.2 (fun z => ⟨fun hz => ?_, fun hz => ?_⟩)
    · rcases List.mem_cons.1 ((h z).1 (by simp [hz])) with rfl | h1
      · have := ha'.1 z hz; omega
      · exact h1
    · rcases List.mem_cons.1 ((h z).2 (by simp [hz])) with rfl | h1
      · have := hb'.1 z hz; omega
      · exact h1
structure OfSpec (l : List S32) (r : List S32 × Int) : Prop where
  bad : l.all ok1 = false → r = ([], 1)
  twice : l.all ok1 = true → clash l → r = ([], 6)
  good : l.all ok1 = true → ¬ clash l → r.2 = 0 ∧ strict r.1 ∧ ∀ x, x ∈ r.1 ↔ x ∈ l
theorem OfSpec.one {l : List S32} {r r' : List S32 × Int} (h : OfSpec l r) (h' : OfSpec l r') : r = r' := by
  cases e : l.all ok1 with
  | false => rw [h.bad e, h'.bad e]
  | true =>
    by_cases c : clash l
    · rw [h.twice e c, h'.twice e c]
    · obtain ⟨a1, a2, a3⟩ := h.good e c
      obtain ⟨b1, b2, b3⟩ := h'.good e c
      exact Prod.ext (strict_ext a2 b2 (fun x => (a3 x).trans (b3 x).symm)) (a1.trans b1.symm)
/-! the rising row without what stands twice -/
theorem mem_dedupFrom : ∀ (l : List S32) (x z : S32), z ∈ x :: dedupFrom x l ↔ z ∈ x :: l
  | [], x, z => by simp [dedupFrom]
  | y :: l, x, z => by
    by_cases h : x = y
    · subst h
      have : dedupFrom x (x :: l) = dedupFrom x l := by rw [dedupFrom, if_pos (sEq_iff.2 rfl)]
      rw [this, mem_dedupFrom l x z]; simp
    · have : dedupFrom x (y :: l) = y :: dedupFrom y l := by rw [dedupFrom, if_neg (fun e => h (sEq_iff.1 e).symm)]
      rw [this, List.mem_cons, mem_dedupFrom l y z, List.mem_cons, List.mem_cons, List.mem_cons]
theorem mem_dedup (l : List S32) (z : S32) : z ∈ dedup l ↔ z ∈ l := by
  cases l with
  | nil => rfl
  | cons x l => exact mem_dedupFrom l x z
theorem srt_dedupFrom : ∀ (l : List S32) (x : S32), srt (x :: l) → srt (x :: dedupFrom x l)
  | [], x, h => h
  | y :: l, x, h => by
    have h1 := List.pairwise_cons.1 h
    by_cases e : x = y
    · subst e
      have : dedupFrom x (x :: l) = dedupFrom x l := by rw [dedupFrom, if_pos (sEq_iff.2 rfl)]
      rw [this]; exact srt_dedupFrom l x h1.2
    · have : dedupFrom x (y :: l) = y :: dedupFrom y l := by rw [dedupFrom, if_neg (fun e' => e (sEq_iff.1 e').symm)]
      rw [this]
      refine List.pairwise_cons.2 ⟨fun z hz => h1.1 z ((mem_dedupFrom l y z).1 hz), srt_dedupFrom l y h1.2⟩
theorem srt_dedup {l : List S32} (h : srt l) : srt (dedup l) := by
  cases l with
  | nil => exact h
  | cons x l => exact srt_dedupFrom l x h
theorem strict_dedupFrom : ∀ (l : List S32) (x : S32), srt (x :: l) → ¬ clash (x :: l) → strict (x :: dedupFrom x l)
  | [], x, h, _ => List.pairwise_singleton _ _
  | y :: l, x, h, c => by
    have h1 := List.pairwise_cons.1 h
    have c1 : ¬ clash (y :: l) := fun ⟨a, ha, b, hb, e⟩ => c ⟨a, by simp [ha], b, by simp [hb], e⟩
    by_cases e : x = y
    · subst e
      have : dedupFrom x (x :: l) = dedupFrom x l := by rw [dedupFrom, if_pos (sEq_iff.2 rfl)]
      rw [this]; exact strict_dedupFrom l x h1.2 c1
    · have : dedupFrom x (y :: l) = y :: dedupFrom y l := by rw [dedupFrom, if_neg (fun e' => e (sEq_iff.1 e').symm)]
      rw [this]
      refine List.pairwise_cons.2 ⟨fun z hz => ?_, strict_dedupFrom l y h1.2 c1⟩
      have hxy : x.f0 < y.f0 := by
        have := h1.1 y (by simp)
        have : x.f0 ≠ y.f0 := fun e' => c ⟨x, by simp, y, by simp, e', e⟩
        omega
      have hz' := (mem_dedupFrom l y z).1 hz
      rcases List.mem_cons.1 hz' with rfl | hz'
      · exact hxy
      · have := (List.pairwise_cons.1 h1.2).1 z hz'; omega
theorem strict_dedup {l : List S32} (h : srt l) (c : ¬ clash l) : strict (dedup l) := by
  cases l with
  | nil => exact List.Pairwise.nil
  | cons x l => exact strict_dedupFrom l x h c
theorem length_dedupFrom : ∀ (l : List S32) (x : S32), (dedupFrom x l).length ≤ l.length
  | [], _ => Nat.le_refl _
  | y :: l, x => by
    rw [dedupFrom]; have := length_dedupFrom l y
    split <;> simp <;> omega
theorem length_dedup (l : List S32) : (dedup l).length ≤ l.length := by
  cases l with
  | nil => exact Nat.le_refl _
  | cons x l => have := length_dedupFrom l x; simp [dedup]; omega
def adj : S32 → List S32 → Bool
  | _, [] => true
  | y, z :: R => if y.f0 = z.f0 then false else adj z R
theorem adj_strict : ∀ (R : List S32) (y : S32), srt (y :: R) → (adj y R = true ↔ strict (y :: R))
  | [], y, _ => by simp [adj, strict]
  | z :: R, y, h => by
    have h1 := List.pairwise_cons.1 h
    have ih := adj_strict R z h1.2
    have hz := h1.1 z (by simp)
    by_cases e : y.f0 = z.f0
    · simp only [adj, e, if_true]
      exact ⟨fun h => by simp at h, fun hs => by have := (List.pairwise_cons.1 hs).1 z (by simp); omega⟩
    · simp only [adj, e, if_false]
      rw [ih]
      refine ⟨fun hs => List.pairwise_cons.2 ⟨fun u hu => ?_, hs⟩, fun hs => (List.pairwise_cons.1 hs).2⟩
      rcases List.mem_cons.1 hu with rfl | hu
      · omega
      · have := (List.pairwise_cons.1 hs).1 u hu; omega
theorem of_go : ∀ (R P : List S32) (y : S32) (i : Int), i = P.length + 1 → P.length + R.length < 1000 → Ev (fun k => preds_Of.l0 k (P ++ y :: R) i) (if adj y R = true then (P ++ y :: R, 0) else ([], 6))
  | [], P, y, i, hi, hl => by
    refine Ev.step (f := fun _ => some (P ++ [y], 0)) (fun k => by rw [preds_Of.l0, if_neg (by simp; omega), if_neg (by simp; omega)]) ?_
    simp only [adj, if_true]; exact Ev.now _
  | z :: R, P, y, i, hi, hl => by
    simp only [List.length_cons] at hl
    have w1 : wrap64 (i + 1) = i + 1 := wrap_small (by omega) (by omega)
    have w2 : wrap64 (i - 1) = i - 1 := wrap_small (by omega) (by omega)
    have g1 : rd_T32 (P ++ y :: z :: R) (i - 1) = y := rd_at (by omega)
    have g2 : rd_T32 (P ++ y :: z :: R) i = z := by rw [show P ++ y :: z :: R = (P ++ [y]) ++ z :: R by simp]; exact rd_at (by simp; omega)
    by_cases e : y.f0 = z.f0
    · refine Ev.step (f := fun _ => some ([], 6)) (fun k => by rw [preds_Of.l0, if_pos (by simp; omega)]; simp only [w2, g1, g2]; rw [if_pos (by omega), if_pos (by simp; omega), if_pos (by omega), if_pos e]) ?_
      simp only [adj, e, if_true, Bool.false_eq_true, if_false]; exact Ev.now _
    · refine Ev.step (f := fun k => preds_Of.l0 k (P ++ y :: z :: R) (i + 1)) (fun k => by rw [preds_Of.l0, if_pos (by simp; omega)]; simp only [w1, w2, g1, g2]; rw [if_pos (by omega), if_pos (by simp; omega), if_pos (by omega), if_neg e]) ?_
      have := of_go R (P ++ [y]) z (i + 1) (by simp; omega) (by simp; omega)
      simpa [adj, e] using this
theorem of_ev (l : List S32) (hl : l.length < 900) (g : ∀ x ∈ l, gS32 x) : ∃ r, OfSpec l r ∧ r.1.length ≤ l.length ∧ Ev (fun k => preds_Of.f k l) r := by
  cases hr : l.all ok1 with
  | false =>
    refine ⟨([], 1), ⟨fun _ => rfl, fun h => by simp [hr] at h, fun h => by simp [hr] at h⟩, by simp, ?_⟩
    refine Ev.congr (f := fun _ => some ([], 1)) (fun k => ?_) (Ev.now _)
    rw [preds_Of.f, cmdRight_eq l (by omega) g, hr]; rfl
  | true =>
    have hkb : kb l := fun x hx => by
      have := List.all_eq_true.1 hr x hx
      simp only [ok1, nm, Bool.and_eq_true, decide_eq_true_eq] at this
      omega
    obtain ⟨L, p1, p2, p3⟩ := sort_ev l 0 (by omega) hkb
    have head : ∀ r, Ev (fun k => preds_Of.l0 k (dedup L) 1) r → Ev (fun k => preds_Of.f k l) r := by
      intro r h
      refine Ev.congr (f := fun k => (api_Cmd_25.f k l 0).bind fun t195 => ((api_Cmd_27.f t195).bind fun t196 => (preds_Of.l0 k t196 1))) (fun k => ?_) (Ev.bind p3 ?_)
      · rw [preds_Of.f, cmdRight_eq l (by omega) g, hr]
        simp only [Option.bind_some, if_true, List.nil_append, List.length_nil]
        rw [if_pos (by omega)]
      · exact h
    have mem : ∀ z, z ∈ dedup L ↔ z ∈ l := fun z => (mem_dedup L z).trans p1.mem_iff
    have len : (dedup L).length ≤ l.length := Nat.le_trans (length_dedup L) (Nat.le_of_eq p1.length_eq)
    have hs := srt_dedup p2
    have cl : clash L ↔ clash l := ⟨fun ⟨a, ha, b, hb, e⟩ => ⟨a, p1.mem_iff.1 ha, b, p1.mem_iff.1 hb, e⟩, fun ⟨a, ha, b, hb, e⟩ => ⟨a, p1.mem_iff.2 ha, b, p1.mem_iff.2 hb, e⟩⟩
    by_cases c : clash l
    · refine ⟨([], 6), ⟨fun h => by simp [hr] at h, fun _ _ => rfl, fun _ h => absurd c h⟩, by simp, head _ ?_⟩
      have ns : ¬ strict (dedup L) := fun s => by
        obtain ⟨a, ha, b, hb, e, ne⟩ := c
        exact ne (strict_inj s ((mem a).2 ha) ((mem b).2 hb) e)
      cases hd : dedup L with
      | nil => rw [hd] at ns; exact absurd List.Pairwise.nil ns
      | cons y R =>
        rw [hd] at ns hs len
        have := of_go R [] y 1 (by simp) (by simp at len ⊢; omega)
        rw [if_neg (fun e => ns ((adj_strict R y hs).1 e))] at this
        exact this
    · have s := strict_dedup p2 (fun h => c (cl.1 h))
      refine ⟨(dedup L, 0), ⟨fun h => by simp [hr] at h, fun _ h => absurd h c, fun _ _ => ⟨rfl, s, mem⟩⟩, len, head _ ?_⟩
      cases hd : dedup L with
      | nil =>
        refine Ev.step (f := fun _ => some ([], 0)) (fun k => by rw [preds_Of.l0, if_neg (by simp), if_neg (by simp)]) (Ev.now _)
      | cons y R =>
        rw [hd] at s hs len
        have := of_go R [] y 1 (by simp) (by simp at len ⊢; omega)
        rw [if_pos ((adj_strict R y hs).2 s)] at this
        exact this
/-! the document's -/
theorem put_yes : ∀ (R P O : List S32) (i : Int) (c : S32), i = P.length → P.length + R.length < 1000000 → O.length + R.length < 1000000 →
    Ev (fun k => lictorref03_put.l0 k (P ++ R) O true i c.f0 c.f1 c.f2 c.f3 c.f4 c.f5 c.f6) (O ++ R)
  | [], P, O, i, c, hi, hl, ho => by
    refine Ev.step (f := fun _ => some O) (fun k => by rw [lictorref03_put.l0, if_neg (by simp; omega), if_pos rfl]) ?_
    simpa using Ev.now O
  | x :: R, P, O, i, c, hi, hl, ho => by
    simp only [List.length_cons] at hl ho
    have g : rd_T32 (P ++ x :: R) i = x := rd_at hi
    have w1 : wrap64 (i + 1) = i + 1 := wrap_small (by omega) (by omega)
    refine Ev.step (f := fun k => lictorref03_put.l0 k (P ++ x :: R) (O ++ [x]) true (i + 1) c.f0 c.f1 c.f2 c.f3 c.f4 c.f5 c.f6) (fun k => by rw [lictorref03_put.l0, if_pos (by simp; omega), if_pos rfl, if_pos (by omega), if_pos (by omega), g, w1]) ?_
    have := put_yes R (P ++ [x]) (O ++ [x]) (i + 1) c (by simp; omega) (by simp; omega) (by simp; omega)
    simpa using this
theorem put_no : ∀ (R P O : List S32) (i : Int) (c : S32), i = P.length → P.length + R.length < 1000000 → O.length + R.length < 100000 → strict R → (∀ x ∈ R, x.f0 ≠ c.f0) →
    ∃ o, Ev (fun k => lictorref03_put.l0 k (P ++ R) O false i c.f0 c.f1 c.f2 c.f3 c.f4 c.f5 c.f6) (O ++ o) ∧ strict o ∧ (∀ z, z ∈ o ↔ z = c ∨ z ∈ R) ∧ o.length = R.length + 1
  | [], P, O, i, c, hi, hl, ho, hs, hc => by
    refine ⟨[c], Ev.step (f := fun _ => some (O ++ [c])) (fun k => by rw [lictorref03_put.l0, if_neg (by simp; omega), if_neg (by simp), if_pos (by simp at ho; omega)]) (Ev.now _), List.pairwise_singleton _ _, by simp, rfl⟩
  | x :: R, P, O, i, c, hi, hl, ho, hs, hc => by
    simp only [List.length_cons] at hl ho
    have g : rd_T32 (P ++ x :: R) i = x := rd_at hi
    have w1 : wrap64 (i + 1) = i + 1 := wrap_small (by omega) (by omega)
    have hs' := List.pairwise_cons.1 hs
    by_cases h : x.f0 > c.f0
    · refine ⟨c :: x :: R, ?_, List.pairwise_cons.2 ⟨fun z hz => ?_, hs⟩, by simp, by simp⟩
      · refine Ev.step (f := fun k => lictorref03_put.l0 k (P ++ x :: R) (O ++ [c] ++ [x]) true (i + 1) c.f0 c.f1 c.f2 c.f3 c.f4 c.f5 c.f6) (fun k => ?_) ?_
        · rw [lictorref03_put.l0, if_pos (by simp; omega), if_neg (by simp), if_pos (by omega), g, if_pos h, if_pos (by omega)]
          simp only [Option.bind_some]
          rw [if_pos (by simp; omega), w1]
        · have := put_yes R (P ++ [x]) (O ++ [c] ++ [x]) (i + 1) c (by simp; omega) (by simp; omega) (by simp; omega)
          simpa using this
      · rcases List.mem_cons.1 hz with rfl | hz
        · omega
        · have := hs'.1 z hz; omega
    · have hx := hc x (by simp)
      obtain ⟨o, o1, o2, o3, o4⟩ := put_no R (P ++ [x]) (O ++ [x]) (i + 1) c (by simp; omega) (by simp; omega) (by simp; omega) hs'.2 (fun z hz => hc z (by simp [hz]))
      refine ⟨x :: o, ?_, List.pairwise_cons.2 ⟨fun z hz => ?_, o2⟩, fun z => ?_, by simp [o4]⟩
      · refine Ev.step (f := fun k => lictorref03_put.l0 k (P ++ x :: R) (O ++ [x]) false (i + 1) c.f0 c.f1 c.f2 c.f3 c.f4 c.f5 c.f6) (fun k => ?_) (by simpa using o1)
        rw [lictorref03_put.l0, if_pos (by simp; omega), if_neg (by simp), if_pos (by omega), g, if_neg h, if_pos (by omega), w1]
      · rcases (o3 z).1 hz with rfl | hz
        · omega
        · exact hs'.1 z hz
      · simp only [List.mem_cons, o3]; grind
theorem put_ev (l : List S32) (c : S32) (hl : l.length < 10000) (hs : strict l) (hc : ∀ x ∈ l, x.f0 = c.f0 → x = c) :
    ∃ o, Ev (fun k => lictorref03_put.f k l c.f0 c.f1 c.f2 c.f3 c.f4 c.f5 c.f6) o ∧ strict o ∧ (∀ z, z ∈ o ↔ z = c ∨ z ∈ l) ∧ o.length ≤ l.length + 1 := by
  have hf := find_ref l c.f0 (by omega)
  by_cases h : ∀ x ∈ l, x.f0 ≠ c.f0
  · obtain ⟨o, o1, o2, o3, o4⟩ := put_no l [] [] 0 c rfl (by simp; omega) (by simp; omega) hs h
    refine ⟨o, Ev.bind hf ?_, o2, o3, by omega⟩
    have : decide (fnd l c.f0 0 ≥ 0) = false := decide_eq_false (by have := fnd_neg.2 h; omega)
    rw [this]; simpa using o1
  · refine ⟨l, Ev.bind hf ?_, hs, fun z => ⟨Or.inr, fun hz => ?_⟩, by omega⟩
    · have : decide (fnd l c.f0 0 ≥ 0) = true := decide_eq_true (by have := mt fnd_neg.1 h; omega)
      rw [this]
      have := put_yes l [] [] 0 c rfl (by simp; omega) (by simp; omega)
      simpa using this
    · rcases hz with rfl | hz
      · have h' : ∃ x ∈ l, x.f0 = z.f0 := by
          apply Classical.byContradiction
          intro hn
          exact h (fun x hx e => hn ⟨x, hx, e⟩)
        obtain ⟨x, hx, e⟩ := h'
        rwa [← hc x hx e]
      · exact hz
theorem ofref_go : ∀ (R P O : List S32) (i : Int), i = P.length → P.length + R.length < 900 → strict O → O.length ≤ P.length → (∀ z, z ∈ O ↔ z ∈ P) →
    ∃ r, Ev (fun k => lictorref03_Of.l0 k (P ++ R) O i) r ∧ (clash (P ++ R) → r = ([], 6)) ∧ (¬ clash (P ++ R) → r.2 = 0 ∧ strict r.1 ∧ ∀ x, x ∈ r.1 ↔ x ∈ P ++ R)
  | [], P, O, i, hi, hl, hs, ho, hm => by
    refine ⟨(O, 0), Ev.step (f := fun _ => some (O, 0)) (fun k => by rw [lictorref03_Of.l0, if_neg (by simp; omega), if_neg (by simp at hl; omega)]) (Ev.now _), ?_, fun _ => ⟨rfl, hs, by simpa using hm⟩⟩
    rintro ⟨a, ha, b, hb, e, ne⟩
    exact absurd (strict_inj hs ((hm a).2 (by simpa using ha)) ((hm b).2 (by simpa using hb)) e) ne
  | x :: R, P, O, i, hi, hl, hs, ho, hm => by
    simp only [List.length_cons] at hl
    have g : rd_T32 (P ++ x :: R) i = x := rd_at hi
    have w1 : wrap64 (i + 1) = i + 1 := wrap_small (by omega) (by omega)
    have hf := find_ref O x.f0 (by omega)
    have e1 : P ++ x :: R = (P ++ [x]) ++ R := by simp
    have next : (∀ y ∈ O, y.f0 = x.f0 → y = x) → ∃ o r, Ev (fun k => lictorref03_put.f k O x.f0 x.f1 x.f2 x.f3 x.f4 x.f5 x.f6) o ∧ Ev (fun k => lictorref03_Of.l0 k (P ++ x :: R) o (i + 1)) r ∧ (clash (P ++ x :: R) → r = ([], 6)) ∧ (¬ clash (P ++ x :: R) → r.2 = 0 ∧ strict r.1 ∧ ∀ z, z ∈ r.1 ↔ z ∈ P ++ x :: R) := by
      intro hy
      obtain ⟨o, o1, o2, o3, o4⟩ := put_ev O x (by omega) hs hy
      obtain ⟨r, r1, r2, r3⟩ := ofref_go R (P ++ [x]) o (i + 1) (by simp; omega) (by simp; omega) o2 (by simp; omega) (fun z => by rw [o3, hm]; simp; grind)
      rw [← e1] at r1 r2 r3
      exact ⟨o, r, o1, r1, r2, r3⟩
    rcases fnd_spec x.f0 O 0 (by omega) with ⟨h1, h2⟩ | ⟨A, y, B, hO, h2, h3, h4⟩
    · obtain ⟨o, r, o1, r1, r2, r3⟩ := next (fun y hy e => absurd e (h2 y hy))
      refine ⟨r, Ev.step (f := fun k => (lictorref03_Find.f k O x.f0).bind fun t275 => (if t275 ≥ 0 then (if 0 ≤ t275 then (if t275 < (O.length : Int) then (if (!(((rd_T32 O t275).f0) == (x.f0)) || (!(((rd_T32 O t275).f1) == (x.f1)) || (!(((rd_T32 O t275).f2) == (x.f2)) || (!(((rd_T32 O t275).f3) == (x.f3)) || (!(((rd_T32 O t275).f4) == (x.f4)) || (!(((rd_T32 O t275).f5) == (x.f5)) || (!(((rd_T32 O t275).f6) == (x.f6))))))))) = true then (some (([] : List (S32)), 6)) else ((lictorref03_put.f k O x.f0 x.f1 x.f2 x.f3 x.f4 x.f5 x.f6).bind fun t279 => (lictorref03_Of.l0 k (P ++ x :: R) t279 (i + 1)))) else (none)) else (none)) else ((lictorref03_put.f k O x.f0 x.f1 x.f2 x.f3 x.f4 x.f5 x.f6).bind fun t283 => (lictorref03_Of.l0 k (P ++ x :: R) t283 (i + 1)))))
        (fun k => by rw [lictorref03_Of.l0, if_pos (by simp; omega), if_pos (by omega), g, w1]) (Ev.bind hf ?_), r2, r3⟩
      refine Ev.congr (fun k => by rw [if_neg (by omega)]) (Ev.bind o1 r1)
    · have gy : rd_T32 O (fnd O x.f0 0) = y := by rw [h4, hO]; exact rd_at (by omega)
      have ly : fnd O x.f0 0 < O.length := by rw [h4, hO]; simp; omega
      have my : y ∈ O := by rw [hO]; simp
      by_cases e : y = x
      · obtain ⟨o, r, o1, r1, r2, r3⟩ := next (fun z hz ez => by rw [← e]; exact strict_inj hs hz my (ez.trans h2.symm))
        refine ⟨r, Ev.step (f := fun k => (lictorref03_Find.f k O x.f0).bind fun t275 => (if t275 ≥ 0 then (if 0 ≤ t275 then (if t275 < (O.length : Int) then (if (!(((rd_T32 O t275).f0) == (x.f0)) || (!(((rd_T32 O t275).f1) == (x.f1)) || (!(((rd_T32 O t275).f2) == (x.f2)) || (!(((rd_T32 O t275).f3) == (x.f3)) || (!(((rd_T32 O t275).f4) == (x.f4)) || (!(((rd_T32 O t275).f5) == (x.f5)) || (!(((rd_T32 O t275).f6) == (x.f6))))))))) = true then (some (([] : List (S32)), 6)) else ((lictorref03_put.f k O x.f0 x.f1 x.f2 x.f3 x.f4 x.f5 x.f6).bind fun t279 => (lictorref03_Of.l0 k (P ++ x :: R) t279 (i + 1)))) else (none)) else (none)) else ((lictorref03_put.f k O x.f0 x.f1 x.f2 x.f3 x.f4 x.f5 x.f6).bind fun t283 => (lictorref03_Of.l0 k (P ++ x :: R) t283 (i + 1)))))
          (fun k => by rw [lictorref03_Of.l0, if_pos (by simp; omega), if_pos (by omega), g, w1]) (Ev.bind hf ?_), r2, r3⟩
        refine Ev.congr (fun k => by rw [if_pos (by omega), if_pos (by omega), if_pos ly, gy, if_neg (by rw [neq_or]; simpa using e)]) (Ev.bind o1 r1)
      · refine ⟨([], 6), Ev.step (f := fun k => (lictorref03_Find.f k O x.f0).bind fun t275 => (if t275 ≥ 0 then (if 0 ≤ t275 then (if t275 < (O.length : Int) then (if (!(((rd_T32 O t275).f0) == (x.f0)) || (!(((rd_T32 O t275).f1) == (x.f1)) || (!(((rd_T32 O t275).f2) == (x.f2)) || (!(((rd_T32 O t275).f3) == (x.f3)) || (!(((rd_T32 O t275).f4) == (x.f4)) || (!(((rd_T32 O t275).f5) == (x.f5)) || (!(((rd_T32 O t275).f6) == (x.f6))))))))) = true then (some (([] : List (S32)), 6)) else ((lictorref03_put.f k O x.f0 x.f1 x.f2 x.f3 x.f4 x.f5 x.f6).bind fun t279 => (lictorref03_Of.l0 k (P ++ x :: R) t279 (i + 1)))) else (none)) else (none)) else ((lictorref03_put.f k O x.f0 x.f1 x.f2 x.f3 x.f4 x.f5 x.f6).bind fun t283 => (lictorref03_Of.l0 k (P ++ x :: R) t283 (i + 1)))))
          (fun k => by rw [lictorref03_Of.l0, if_pos (by simp; omega), if_pos (by omega), g, w1]) (Ev.bind hf ?_), fun _ => rfl, fun hc => absurd ⟨y, by have := (hm y).1 my; simp [this], x, by simp, h2, e⟩ hc⟩
        refine Ev.congr (fun k => by rw [if_pos (by omega), if_pos (by omega), if_pos ly, gy, if_pos (by rw [neq_or]; exact e)]) (Ev.now _)
theorem of_ref (l : List S32) (hl : l.length < 900) : ∃ r, OfSpec l r ∧ Ev (fun k => lictorref03_Of.f k l) r := by
  have hr := right_ref l (by omega)
  cases e : l.all ok1 with
  | false =>
    refine ⟨([], 1), ⟨fun _ => rfl, fun h => by simp [e] at h, fun h => by simp [e] at h⟩, Ev.bind hr ?_⟩
    rw [e]; exact Ev.now _
  | true =>
    obtain ⟨r, r1, r2, r3⟩ := ofref_go l [] [] 0 rfl (by simp; omega) List.Pairwise.nil (Nat.le_refl _) (fun _ => Iff.rfl)
    refine ⟨r, ⟨fun h => by simp [e] at h, fun _ h => r2 h, fun _ h => r3 h⟩, Ev.bind hr ?_⟩
    rw [e]; exact r1
/-! what is left, names, sets, unions -/
def mins (a b : List S32) : List S32 := a.filter (fun x => decide (fnd b x.f0 0 < 0))
theorem find_eq (l : List S32) (id : Int) (hl : l.length < 4000000000000000000) : preds_Find.f l id = preds_Find.g l (fnd l id 0) := by
  unfold preds_Find.f
  rw [if_pos (by omega), idxs_fnd]; rfl
theorem has_eq (l : List S32) (i : Int) : ∃ t, preds_Find.g l i = some t ∧ t.2.2.2.2.2.2.2 = !(decide (i < 0)) := by
  unfold preds_Find.g
  by_cases h : i < 0
  · rw [if_pos h]; exact ⟨_, rfl, by simp [h]⟩
  · rw [if_neg h]; exact ⟨_, rfl, by simp [h]⟩
theorem minus_go (n : Int) (b : List S32) (hb : b.length < 4000000000000000000) : ∀ (R P O : List S32) (i : Int), i = P.length → n = P.length + R.length → P.length + R.length < 1000000 → O.length + R.length < 1000000 →
    Ev (fun k => preds_Minus.l0 k b O (P ++ R) n i) (O ++ mins R b)
  | [], P, O, i, hi, hn, hl, ho => by
    refine Ev.step (f := fun _ => some O) (fun k => by rw [preds_Minus.l0, if_neg (by simp at hn; omega)]) ?_
    simpa [mins] using Ev.now O
  | x :: R, P, O, i, hi, hn, hl, ho => by
    simp only [List.length_cons] at hl ho hn
    have g : rd_T32 (P ++ x :: R) i = x := rd_at hi
    have w1 : wrap64 (i + 1) = i + 1 := wrap_small (by omega) (by omega)
    obtain ⟨t, t1, t2⟩ := has_eq b (fnd b x.f0 0)
    have ih := minus_go n b hb R (P ++ [x])
    by_cases h : fnd b x.f0 0 < 0
    · refine Ev.step (f := fun k => preds_Minus.l0 k b (O ++ [x]) (P ++ x :: R) n (i + 1)) (fun k => ?_) ?_
      · rw [preds_Minus.l0, if_pos (by omega), if_pos (by omega), if_pos (by simp; omega), g, find_eq b _ hb, t1, w1]
        simp only [Option.bind_some, t2, h, decide_true, Bool.not_true, Bool.false_eq_true, if_false]
        rw [if_pos (by omega)]
      · have := ih (O ++ [x]) (i + 1) (by simp; omega) (by simp; omega) (by simp; omega) (by simp; omega)
        simpa [mins, h] using this
    · refine Ev.step (f := fun k => preds_Minus.l0 k b O (P ++ x :: R) n (i + 1)) (fun k => ?_) ?_
      · rw [preds_Minus.l0, if_pos (by omega), if_pos (by omega), if_pos (by simp; omega), g, find_eq b _ hb, t1, w1]
        simp only [Option.bind_some, t2, h, decide_false, Bool.not_false, if_true]
      · have := ih O (i + 1) (by simp; omega) (by simp; omega) (by simp; omega) (by omega)
        simpa [mins, h] using this
theorem minus_ev (a b : List S32) (ha : a.length < 100000) (hb : b.length < 4000000000000000000) : Ev (fun k => preds_Minus.f k a b) (mins a b) := by
  have := minus_go a.length b hb a [] [] 0 rfl (by simp) (by simp; omega) (by simp; omega)
  exact this
theorem minusref_go (b : List S32) (hb : b.length < 4000000000000000000) : ∀ (R P O : List S32) (i : Int), i = P.length → P.length + R.length < 1000000 → O.length + R.length < 1000000 →
    Ev (fun k => lictorref03_Minus.l0 k (P ++ R) b O i) (O ++ mins R b)
  | [], P, O, i, hi, hl, ho => by
    refine Ev.step (f := fun _ => some O) (fun k => by rw [lictorref03_Minus.l0, if_neg (by simp; omega)]) ?_
    simpa [mins] using Ev.now O
  | x :: R, P, O, i, hi, hl, ho => by
    simp only [List.length_cons] at hl ho
    have g : rd_T32 (P ++ x :: R) i = x := rd_at hi
    have w1 : wrap64 (i + 1) = i + 1 := wrap_small (by omega) (by omega)
    have ih := minusref_go b hb R (P ++ [x])
    refine Ev.step (f := fun k => (lictorref03_Find.f k b x.f0).bind fun t302 => (if t302 < 0 then (lictorref03_Minus.l0 k (P ++ x :: R) b (O ++ [x]) (i + 1)) else (lictorref03_Minus.l0 k (P ++ x :: R) b O (i + 1)))) (fun k => ?_) (Ev.bind (find_ref b x.f0 hb) ?_)
    · rw [lictorref03_Minus.l0, if_pos (by simp; omega), if_pos (by omega), g, w1, if_pos (show O.length < 2513169434916 by omega)]
    by_cases h : fnd b x.f0 0 < 0
    · refine Ev.congr (fun k => by rw [if_pos h]) ?_
      have := ih (O ++ [x]) (i + 1) (by simp; omega) (by simp; omega) (by simp; omega)
      simpa [mins, h] using this
    · refine Ev.congr (fun k => by rw [if_neg h]) ?_
      have := ih O (i + 1) (by simp; omega) (by simp; omega) (by omega)
      simpa [mins, h] using this
theorem minus_ref (a b : List S32) (ha : a.length < 100000) (hb : b.length < 4000000000000000000) : Ev (fun k => lictorref03_Minus.f k a b) (mins a b) :=
  minusref_go b hb a [] [] 0 rfl (by simp; omega) (by simp; omega)
theorem ids_go (n : Int) : ∀ (R P : List S32) (O : List Int) (i : Int), i = P.length → n = P.length + R.length → P.length + R.length < 1000000 → O.length + R.length < 1000000 →
    Ev (fun k => preds_Ids.l0 k O (P ++ R) n i) (O ++ R.map (·.f0))
  | [], P, O, i, hi, hn, hl, ho => by
    refine Ev.step (f := fun _ => some O) (fun k => by rw [preds_Ids.l0, if_neg (by simp at hn; omega)]) ?_
    simpa using Ev.now O
  | x :: R, P, O, i, hi, hn, hl, ho => by
    simp only [List.length_cons] at hl ho hn
    have g : rd_T32 (P ++ x :: R) i = x := rd_at hi
    have w1 : wrap64 (i + 1) = i + 1 := wrap_small (by omega) (by omega)
    refine Ev.step (f := fun k => preds_Ids.l0 k (O ++ [x.f0]) (P ++ x :: R) n (i + 1)) (fun k => by rw [preds_Ids.l0, if_pos (by omega), if_pos (by omega), if_pos (by simp; omega), if_pos (by omega), g, w1]) ?_
    have := ids_go n R (P ++ [x]) (O ++ [x.f0]) (i + 1) (by simp; omega) (by simp; omega) (by simp; omega) (by simp; omega)
    simpa using this
theorem ids_ev (a : List S32) (ha : a.length < 100000) : Ev (fun k => preds_Ids.f k a) (a.map (·.f0)) :=
  ids_go a.length a [] [] 0 rfl (by simp) (by simp; omega) (by simp; omega)
theorem idsref_go : ∀ (R P : List S32) (O : List Int) (i : Int), i = P.length → P.length + R.length < 1000000 → O.length + R.length < 1000000 →
    Ev (fun k => lictorref03_Ids.l0 k (P ++ R) O i) (O ++ R.map (·.f0))
  | [], P, O, i, hi, hl, ho => by
    refine Ev.step (f := fun _ => some O) (fun k => by rw [lictorref03_Ids.l0, if_neg (by simp; omega)]) ?_
    simpa using Ev.now O
  | x :: R, P, O, i, hi, hl, ho => by
    simp only [List.length_cons] at hl ho
    have g : rd_T32 (P ++ x :: R) i = x := rd_at hi
    have w1 : wrap64 (i + 1) = i + 1 := wrap_small (by omega) (by omega)
    refine Ev.step (f := fun k => lictorref03_Ids.l0 k (P ++ x :: R) (O ++ [x.f0]) (i + 1)) (fun k => by rw [lictorref03_Ids.l0, if_pos (by simp; omega), if_pos (by omega), if_pos (by omega), g, w1]) ?_
    have := idsref_go R (P ++ [x]) (O ++ [x.f0]) (i + 1) (by simp; omega) (by simp; omega) (by simp; omega)
    simpa using this
theorem ids_ref (a : List S32) (ha : a.length < 100000) : Ev (fun k => lictorref03_Ids.f k a) (a.map (·.f0)) :=
  idsref_go a [] [] 0 rfl (by simp; omega) (by simp; omega)
theorem rdi_at {P R : List Int} {x : Int} {i : Int} (h : i = P.length) : rd (P ++ x :: R) i = x := by
  rw [h]; unfold rd
  rw [List.getD_eq_getElem?_getD, Int.toNat_natCast, List.getElem?_append_right (Nat.le_refl _)]
  simp
theorem sids_go : ∀ (R P : List Int) (i : Int), i = P.length → P.length + R.length < 1000000 → Ev (fun k => lictorref03_SameIds.l0 k (P ++ R) (P ++ R) i) true
  | [], P, i, hi, hl => Ev.step (f := fun _ => some true) (fun k => by rw [lictorref03_SameIds.l0, if_neg (by simp; omega)]) (Ev.now _)
  | x :: R, P, i, hi, hl => by
    simp only [List.length_cons] at hl
    have g : rd (P ++ x :: R) i = x := rdi_at hi
    have w1 : wrap64 (i + 1) = i + 1 := wrap_small (by omega) (by omega)
    refine Ev.step (f := fun k => lictorref03_SameIds.l0 k (P ++ x :: R) (P ++ x :: R) (i + 1)) (fun k => by rw [lictorref03_SameIds.l0, if_pos (by simp; omega), if_pos (by omega), if_pos (by simp; omega), if_pos rfl, w1]) ?_
    have := sids_go R (P ++ [x]) (i + 1) (by simp; omega) (by simp; omega)
    simpa using this
theorem sids_ref (a : List Int) (ha : a.length < 100000) : Ev (fun k => lictorref03_SameIds.f k a a) true :=
  Ev.congr (f := fun k => lictorref03_SameIds.l0 k a a 0) (fun k => by rw [lictorref03_SameIds.f, if_pos rfl]) (sids_go a [] 0 rfl (by simp; omega))
def rise : S32 → List S32 → Bool
  | _, [] => true
  | y, z :: R => if y.f0 ≥ z.f0 then false else rise z R
def rises : List S32 → Bool
  | [] => true
  | y :: R => rise y R
theorem rise_strict : ∀ (R : List S32) (y : S32), rise y R = true ↔ strict (y :: R)
  | [], y => by simp [rise, strict]
  | z :: R, y => by
    have ih := rise_strict R z
    by_cases e : y.f0 ≥ z.f0
    · simp only [rise, e, if_true]
      exact ⟨fun h => by simp at h, fun hs => by have := (List.pairwise_cons.1 hs).1 z (by simp); omega⟩
    · simp only [rise, e, if_false]
      rw [ih]
      refine ⟨fun hs => List.pairwise_cons.2 ⟨fun u hu => ?_, hs⟩, fun hs => (List.pairwise_cons.1 hs).2⟩
      rcases List.mem_cons.1 hu with rfl | hu
      · omega
      · have := (List.pairwise_cons.1 hs).1 u hu; omega
theorem rises_strict (l : List S32) : rises l = true ↔ strict l := by
  cases l with
  | nil => simp [rises, strict]
  | cons y R => exact rise_strict R y
theorem rt_go (l : List S32) (hl : l.length < 900) (g : ∀ x ∈ l, gS32 x) : ∀ (R P : List S32) (y : S32) (i : Int), l = P ++ y :: R → i = P.length + 1 → Ev (fun k => preds_Right.l0 k l i) (rise y R && l.all ok1)
  | [], P, y, i, e, hi => by
    subst e
    refine Ev.step (f := fun _ => some ((P ++ [y]).all ok1)) (fun k => ?_) ?_
    · rw [preds_Right.l0, if_neg (by simp; omega), if_pos (by simp at hl ⊢; omega), cmdRight_eq _ (by omega) g]; rfl
    · simp only [rise, Bool.true_and]; exact Ev.now _
  | z :: R, P, y, i, e, hi => by
    have w1 : wrap64 (i + 1) = i + 1 := wrap_small (by omega) (by rw [e] at hl; simp at hl; omega)
    have w2 : wrap64 (i - 1) = i - 1 := wrap_small (by omega) (by rw [e] at hl; simp at hl; omega)
    have g1 : rd_T32 l (i - 1) = y := by rw [e]; exact rd_at (by omega)
    have g2 : rd_T32 l i = z := by rw [e, show P ++ y :: z :: R = (P ++ [y]) ++ z :: R by simp]; exact rd_at (by simp; omega)
    have li : i < l.length := by rw [e]; simp; omega
    by_cases h : y.f0 ≥ z.f0
    · refine Ev.step (f := fun _ => some false) (fun k => by rw [preds_Right.l0, if_pos li]; simp only [w2, g1, g2]; rw [if_pos (by omega), if_pos (by omega), if_pos (by omega), if_pos h]) ?_
      simpa [rise, h] using Ev.now _
    · refine Ev.step (f := fun k => preds_Right.l0 k l (i + 1)) (fun k => by rw [preds_Right.l0, if_pos li]; simp only [w1, w2, g1, g2]; rw [if_pos (by omega), if_pos (by omega), if_pos (by omega), if_neg h]) ?_
      have := rt_go l hl g R (P ++ [y]) z (i + 1) (by rw [e]; simp) (by simp; omega)
      simpa [rise, h] using this
theorem rt_ev (l : List S32) (hl : l.length < 900) (g : ∀ x ∈ l, gS32 x) : Ev (fun k => preds_Right.f k l) (rises l && l.all ok1) := by
  cases l with
  | nil =>
    refine Ev.step (f := fun _ => some true) (fun k => ?_) (Ev.now _)
    rw [preds_Right.f, preds_Right.l0, if_neg (by simp), if_pos (by simp), cmdRight_eq _ (by simp) g]; rfl
  | cons y R => exact rt_go (y :: R) hl g R [] y 1 rfl (by simp)
theorem rtref_go (l : List S32) (hl : l.length < 900) : ∀ (R P : List S32) (y : S32) (i : Int), l = P ++ y :: R → i = P.length + 1 → Ev (fun k => lictorref03_Right.l0 k l i) (rise y R && l.all ok1)
  | [], P, y, i, e, hi => by
    refine Ev.step (f := fun k => (lictorref02_Right.f k l).bind fun t323 => (if t323 = true then (some true) else (some false))) (fun k => ?_) (Ev.bind (right_ref l (by omega)) ?_)
    · rw [lictorref03_Right.l0, if_neg (by rw [e]; simp; omega)]
      congr 1; funext t; rw [decide_eq_true (by omega)]
    · simp only [rise, Bool.true_and]
      cases l.all ok1 <;> exact Ev.now _
  | z :: R, P, y, i, e, hi => by
    have w1 : wrap64 (i + 1) = i + 1 := wrap_small (by omega) (by rw [e] at hl; simp at hl; omega)
    have w2 : wrap64 (i - 1) = i - 1 := wrap_small (by omega) (by rw [e] at hl; simp at hl; omega)
    have g1 : rd_T32 l (i - 1) = y := by rw [e]; exact rd_at (by omega)
    have g2 : rd_T32 l i = z := by rw [e, show P ++ y :: z :: R = (P ++ [y]) ++ z :: R by simp]; exact rd_at (by simp; omega)
    have li : i < l.length := by rw [e]; simp; omega
    by_cases h : y.f0 ≥ z.f0
    · refine Ev.step (f := fun _ => some false) (fun k => by rw [lictorref03_Right.l0, if_pos li]; simp only [w2, g1, g2]; rw [if_pos (by omega), if_pos (by omega), if_pos (by omega), if_pos h]) ?_
      simpa [rise, h] using Ev.now _
    · refine Ev.step (f := fun k => lictorref03_Right.l0 k l (i + 1)) (fun k => by rw [lictorref03_Right.l0, if_pos li]; simp only [w1, w2, g1, g2]; rw [if_pos (by omega), if_pos (by omega), if_pos (by omega), if_neg h]) ?_
      have := rtref_go l hl R (P ++ [y]) z (i + 1) (by rw [e]; simp) (by simp; omega)
      simpa [rise, h] using this
theorem rt_ref (l : List S32) (hl : l.length < 900) : Ev (fun k => lictorref03_Right.f k l) (rises l && l.all ok1) := by
  cases l with
  | nil =>
    refine Ev.step (f := fun k => (lictorref02_Right.f k []).bind fun t323 => (if t323 = true then (some true) else (some false))) (fun k => ?_) (Ev.bind (right_ref [] (by simp)) (Ev.now _))
    rw [lictorref03_Right.f, lictorref03_Right.l0, if_neg (by simp)]; rfl
  | cons y R => exact rtref_go (y :: R) hl R [] y 1 rfl (by simp)
theorem concat_ev (a b : List S32) (ha : a.length < 1000) (hb : b.length < 1000) : Ev (fun k => api_Cmd_22.f k [a, b]) (a ++ b) := by
  have r0 : rd_L2 [a, b] 0 = a := rfl
  have r1 : rd_L2 [a, b] 1 = b := rfl
  have w0 : wrap64 (0 + 1) = 1 := wrap_small (by omega) (by omega)
  have w1 : wrap64 (1 + 1) = 2 := wrap_small (by omega) (by omega)
  have w2 : wrap64 (0 + (a.length : Int)) = a.length := by rw [wrap_small (by omega) (by omega)]; omega
  have w3 : wrap64 ((a.length : Int) + (b.length : Int)) = a.length + b.length := wrap_small (by omega) (by omega)
  have l2 : (([a, b] : List (List S32)).length : Int) = 2 := rfl
  refine Ev.step (f := fun k => api_Cmd_22.l0 k [a, b] a.length [a, b] 2 1) (fun k => ?_) ?_
  · rw [api_Cmd_22.f, api_Cmd_22.l0]
    simp only [l2, r0, w0, w2]
    rw [if_pos (by omega), if_pos (by omega), if_pos (by omega), if_neg (by omega)]
  refine Ev.step (f := fun k => api_Cmd_22.l0 k [a, b] (a.length + b.length) [a, b] 2 2) (fun k => ?_) ?_
  · rw [api_Cmd_22.l0]
    simp only [l2, r1, w1, w3]
    rw [if_pos (by omega), if_pos (by omega), if_pos (by omega), if_neg (by omega)]
  refine Ev.step (f := fun k => api_Cmd_22.l1 k [] [a, b] 2 0) (fun k => ?_) ?_
  · rw [api_Cmd_22.l0, if_neg (by omega), api_Cmd_32.f, if_pos ⟨rfl, by omega, by omega⟩]; rfl
  refine Ev.step (f := fun k => api_Cmd_22.l1 k a [a, b] 2 1) (fun k => ?_) ?_
  · rw [api_Cmd_22.l1]
    simp only [l2, r0, w0]
    rw [if_pos (by omega), if_pos (by omega), if_pos (by omega), if_pos (by simp; omega)]; rfl
  refine Ev.step (f := fun k => api_Cmd_22.l1 k (a ++ b) [a, b] 2 2) (fun k => ?_) ?_
  · rw [api_Cmd_22.l1]
    simp only [l2, r1, w1]
    rw [if_pos (by omega), if_pos (by omega), if_pos (by omega), if_pos (by omega)]
  exact Ev.step (f := fun _ => some (a ++ b)) (fun k => by rw [api_Cmd_22.l1, if_neg (by omega)]) (Ev.now _)
theorem union_ev (a b : List S32) (h : a.length + b.length < 900) (ga : ∀ x ∈ a, gS32 x) (gb : ∀ x ∈ b, gS32 x) : ∃ r, OfSpec (a ++ b) r ∧ r.1.length ≤ (a ++ b).length ∧ Ev (fun k => preds_Union.f k [a, b]) r := by
  obtain ⟨r, r1, r2, r3⟩ := of_ev (a ++ b) (by simp; omega) (fun x hx => by rcases List.mem_append.1 hx with hx | hx; exact ga x hx; exact gb x hx)
  exact ⟨r, r1, r2, Ev.bind (concat_ev a b (by omega) (by omega)) (Ev.bind (f := fun _ t => some (t.1, t.2)) r3 (Ev.now _))⟩
theorem union_ref (a b : List S32) (h : a.length + b.length < 900) : ∃ r, OfSpec (a ++ b) r ∧ Ev (fun k => lictorref03_Union.f k a b) r := by
  obtain ⟨r, r1, r2⟩ := of_ref (a ++ b) (by simp; omega)
  refine ⟨r, r1, Ev.congr (f := fun k => (lictorref03_Of.f k (a ++ b)).bind fun t => some (t.1, t.2)) (fun k => ?_) (Ev.bind (f := fun _ t => some (t.1, t.2)) r2 (Ev.now _))⟩
  rw [lictorref03_Union.f]
  simp only [Option.bind_some, List.nil_append, List.length_nil]
  rw [if_pos (by omega), if_pos (by omega)]
theorem alive_ev : Ev (fun k => lictorlaw03_alive.f k) true :=
  Ev.of (fun k => lictorlaw03_alive.mono k) (k := 60) (by decide +kernel)
end Go.Proofs.Ytmlgklklikgafaa.PPredsTells
