import Derived.Test.YtmlgklklikgafaaPPredsTellsx6
import Derived.Test.YtmlgklklikgafaaPPredsTellsx5
namespace Go.Proofs.Ytmlgklklikgafaa.PPredsTells
open Go.RowKit Go.Proofs.YtmlgklklikgafaaW.PrintWords
set_option linter.unusedVariables false
set_option linter.unusedSimpArgs false
theorem wrap_small {x : Int} (h0 : 0 ≤ x) (h1 : x < 4611686018427387904) : wrap64 x = x := by unfold wrap64; omega
theorem set_mid {α : Type} (P R : List α) (x y : α) : (P ++ x :: R).set P.length y = P ++ y :: R := by simp
theorem rd_mid (P R : List S32) (x : S32) : rd_T32 (P ++ x :: R) (P.length : Int) = x := by
  unfold rd_T32
  rw [List.getD_eq_getElem?_getD, Int.toNat_natCast, List.getElem?_append_right (Nat.le_refl _)]
  simp
theorem swapRange_go (n : Int) (hn : n < 1000000) : ∀ (A B P M Q : List S32) (a b i : Int), A.length = B.length → 0 ≤ i → 0 ≤ a → 0 ≤ b → a < 1000000 → b < 1000000 → a + i = P.length → b + i = P.length + A.length + M.length → n - i = A.length →
    api_Cmd_47.l0 (A.length + 1) (P ++ A ++ M ++ B ++ Q) a b n i = some (P ++ B ++ M ++ A ++ Q)
  | [], B, P, M, Q, a, b, i, hl, hi, ha, hb, ha1, hb1, h1, h2, h3 => by
    have : B = [] := List.length_eq_zero_iff.1 hl.symm
    subst this
    have h4 : ¬ i < n := by simp at h3; omega
    simp [api_Cmd_47.l0, h4]
  | x :: A, [], P, M, Q, a, b, i, hl, hi, ha, hb, ha1, hb1, h1, h2, h3 => by simp at hl
  | x :: A, y :: B, P, M, Q, a, b, i, hl, hi, ha, hb, ha1, hb1, h1, h2, h3 => by
    simp only [List.length_cons] at hl h2 h3
    have h4 : i < n := by omega
    have e1 : wrap64 (a + i) = (P.length : Int) := by rw [wrap_small (by omega) (by omega)]; exact h1
    have e2 : wrap64 (b + i) = ((P ++ x :: A ++ M).length : Int) := by rw [wrap_small (by omega) (by omega)]; simp; omega
    have e3 : wrap64 (i + 1) = i + 1 := wrap_small (by omega) (by omega)
    have f1 : P ++ x :: A ++ M ++ y :: B ++ Q = P ++ x :: (A ++ M ++ y :: B ++ Q) := by simp
    have f2 : P ++ x :: A ++ M ++ y :: B ++ Q = (P ++ x :: A ++ M) ++ y :: (B ++ Q) := by simp
    have g1 : rd_T32 (P ++ x :: A ++ M ++ y :: B ++ Q) (P.length : Int) = x := by rw [f1]; exact rd_mid _ _ _
    have g2 : rd_T32 (P ++ x :: A ++ M ++ y :: B ++ Q) ((P ++ x :: A ++ M).length : Int) = y := by rw [f2]; exact rd_mid _ _ _
    rw [api_Cmd_47.l0]
    simp only [e1, e2, e3, g1, g2, if_pos h4]
    rw [if_pos (by omega), if_pos (by simp; omega), if_pos (by omega), if_pos (by simp; omega)]
    rw [Int.toNat_natCast, Int.toNat_natCast]
    have s1 : (P ++ x :: A ++ M ++ y :: B ++ Q).set P.length ⟨y.f0, y.f1, y.f2, y.f3, y.f4, y.f5, y.f6⟩ = P ++ y :: (A ++ M ++ y :: B ++ Q) := by rw [f1]; exact set_mid _ _ _ _
    have s2 : (P ++ y :: (A ++ M ++ y :: B ++ Q)).set (P ++ x :: A ++ M).length ⟨x.f0, x.f1, x.f2, x.f3, x.f4, x.f5, x.f6⟩ = (P ++ [y]) ++ A ++ (M ++ [x]) ++ B ++ Q := by
      have : P ++ y :: (A ++ M ++ y :: B ++ Q) = (P ++ y :: A ++ M) ++ y :: (B ++ Q) := by simp
      rw [this, show (P ++ x :: A ++ M).length = (P ++ y :: A ++ M).length by simp]
      refine (set_mid _ _ _ _).trans ?_
      simp
    rw [s1, s2]
    have := swapRange_go n hn A B (P ++ [y]) (M ++ [x]) Q a b (i + 1) (by omega) (by omega) ha hb ha1 hb1 (by simp; omega) (by simp; omega) (by omega)
    exact this.trans (by simp)
theorem swapRange_ev (P A M B Q : List S32) (a b n c : Int) (hl : A.length = B.length) (ha : a = P.length) (hb : b = P.length + A.length + M.length) (hn : n = A.length) (hs : P.length + A.length + M.length < 1000000) :
    Ev (fun k => api_Cmd_47.f k (P ++ A ++ M ++ B ++ Q) a b n c) (P ++ B ++ M ++ A ++ Q) :=
  Ev.of (fun k => api_Cmd_47.mono _ _ _ _ _ k) (k := A.length + 1) (swapRange_go n (by omega) A B P M Q a b 0 hl (by omega) (by omega) (by omega) (by omega) (by omega) (by omega) (by omega) (by omega))
theorem rotate_go (m c : Int) : ∀ (s : Nat) (P U V Q : List S32) (i j : Int), U.length + V.length ≤ s → 0 < U.length → 0 < V.length → i = U.length → j = V.length → m = P.length + U.length → P.length + U.length + V.length < 1000000 →
    Ev (fun k => api_Cmd_46.l0 k (P ++ U ++ V ++ Q) m c i j) (P ++ V ++ U ++ Q) := by
  intro s
  induction s with
  | zero => intro P U V Q i j hs hu hv; omega
  | succ s ih =>
    intro P U V Q i j hs hu hv hi hj hm hb
    have w1 : wrap64 (m - i) = P.length := by rw [wrap_small (by omega) (by omega)]; omega
    rcases Int.lt_trichotomy i j with h | h | h
    · -- i < j
      have w2 : wrap64 (wrap64 (m + j) - i) = P.length + V.length := by rw [wrap_small (x := m + j) (by omega) (by omega), wrap_small (by omega) (by omega)]; omega
      have w3 : wrap64 (j - i) = ((V.length - U.length : Nat) : Int) := by rw [wrap_small (by omega) (by omega)]; omega
      refine Ev.step (fun k => by rw [api_Cmd_46.l0, if_neg (by omega), if_neg (by omega), w1, w2, w3]) ?_
      have e1 : P ++ U ++ V ++ Q = P ++ U ++ V.take (V.length - U.length) ++ V.drop (V.length - U.length) ++ Q := by simp
      rw [e1]
      refine Ev.bind (swapRange_ev P U (V.take (V.length - U.length)) (V.drop (V.length - U.length)) Q _ _ _ c (by simp; omega) rfl (by simp; omega) hi (by simp; omega)) ?_
      have := ih P (V.drop (V.length - U.length)) (V.take (V.length - U.length)) (U ++ Q) i _ (by simp; omega) (by simp; omega) (by simp; omega) (by simp; omega) (show ((V.length - U.length : Nat) : Int) = _ by simp) (by simp; omega) (by simp; omega)
      simpa using this
    · -- equal
      refine Ev.step (fun k => by rw [api_Cmd_46.l0, if_pos h, w1]) ?_
      have := swapRange_ev P U [] V Q P.length m i c (by omega) rfl (by simp; omega) hi (by simp; omega)
      simp only [List.append_nil] at this
      exact Ev.bind (f := fun _ t => some t) this (Ev.now _)
    · have w3 : wrap64 (i - j) = ((U.length - V.length : Nat) : Int) := by rw [wrap_small (by omega) (by omega)]; omega
      refine Ev.step (fun k => by rw [api_Cmd_46.l0, if_neg (by omega), if_pos (by omega), w1, w3]) ?_
      have e1 : P ++ U ++ V ++ Q = P ++ U.take V.length ++ U.drop V.length ++ V ++ Q := by simp
      rw [e1]
      refine Ev.bind (swapRange_ev P (U.take V.length) (U.drop V.length) V Q _ _ _ c (by simp; omega) rfl (by simp; omega) (by simp; omega) (by simp; omega)) ?_
      have := ih (P ++ V) (U.drop V.length) (U.take V.length) Q _ j (by simp; omega) (by simp; omega) (by simp; omega) (show ((U.length - V.length : Nat) : Int) = _ by simp) (by simp; omega) (by simp; omega) (by simp; omega)
      simpa using this
theorem rotate_ev (P U V Q : List S32) (a m b c : Int) (ha : a = P.length) (hm : m = P.length + U.length) (hb : b = P.length + U.length + V.length) (hu : 0 < U.length) (hv : 0 < V.length) (hs : P.length + U.length + V.length < 1000000) :
    Ev (fun k => api_Cmd_46.f k (P ++ U ++ V ++ Q) a m b c) (P ++ V ++ U ++ Q) := by
  refine Ev.congr (fun k => by rw [api_Cmd_46.f, wrap_small (by omega) (by omega), wrap_small (by omega) (by omega)]) ?_
  exact rotate_go m c _ P U V Q _ _ (Nat.le_refl _) hu hv (by omega) (by omega) (by omega) hs
def srt (l : List S32) : Prop := l.Pairwise (fun x y => x.f0 ≤ y.f0)
def kb (l : List S32) : Prop := ∀ x ∈ l, 0 ≤ x.f0 ∧ x.f0 < 1000000
theorem kb_perm {l l' : List S32} (h : l'.Perm l) (k : kb l) : kb l' := fun x hx => k x (h.mem_iff.1 hx)
theorem less_of {x y : S32} (hx : 0 ≤ x.f0 ∧ x.f0 < 1000000) (hy : 0 ≤ y.f0 ∧ y.f0 < 1000000) :
    preds_byName.f x.f0 x.f1 x.f2 x.f3 x.f4 x.f5 x.f6 y.f0 y.f1 y.f2 y.f3 y.f4 y.f5 y.f6 = some (x.f0 - y.f0) := by
  unfold preds_byName.f wrap64; congr 1; omega
theorem eta (x : S32) : (⟨x.f0, x.f1, x.f2, x.f3, x.f4, x.f5, x.f6⟩ : S32) = x := rfl
theorem rd_at {P R : List S32} {x : S32} {i : Int} (h : i = P.length) : rd_T32 (P ++ x :: R) i = x := by rw [h]; exact rd_mid P R x
theorem rd_ap {P M : List S32} {i : Int} {j : Nat} (h : i = P.length + j) : rd_T32 (P ++ M) i = M.getD j z32 := by
  unfold rd_T32
  have e : i.toNat = P.length + j := by omega
  rw [e, List.getD_eq_getElem?_getD, List.getD_eq_getElem?_getD, List.getElem?_append_right (by omega)]
  congr 2; omega
theorem rd_apl {M R : List S32} {j : Nat} (h : j < M.length) : (M ++ R).getD j z32 = M.getD j z32 := by
  rw [List.getD_eq_getElem?_getD, List.getD_eq_getElem?_getD, List.getElem?_append_left h]
theorem set_at {P R : List S32} {x y : S32} {i : Int} (h : i = P.length) : (P ++ x :: R).set i.toNat y = P ++ y :: R := by rw [h, Int.toNat_natCast]; exact set_mid P R x y
/-- two neighbours change places -/
theorem swap_nb (P R : List S32) (x y : S32) (i j : Int) (hi : i = P.length) (hj : j = P.length + 1) :
    ((P ++ x :: y :: R).set j.toNat x).set i.toNat y = P ++ y :: x :: R := by
  have e : P ++ x :: y :: R = (P ++ [x]) ++ y :: R := by simp
  have h1 : (P ++ x :: y :: R).set j.toNat x = P ++ x :: x :: R := by rw [e, set_at (by simp; omega)]; simp
  rw [h1, set_at hi]
theorem swap_nb' (P R : List S32) (x y : S32) (i j : Int) (hi : i = P.length) (hj : j = P.length + 1) :
    ((P ++ x :: y :: R).set i.toNat y).set j.toNat x = P ++ y :: x :: R := by
  rw [set_at hi]
  have e : P ++ y :: y :: R = (P ++ [y]) ++ y :: R := by simp
  rw [e, set_at (by simp; omega)]; simp
/-! insertion -/
theorem insert_one (a b n i0 : Int) (P R : List S32) (ha : a = P.length) (x : S32) :
    ∀ (m : Nat) (S1 S2 : List S32) (i : Int), S1.length = m → i = P.length + S1.length → P.length + S1.length + S2.length < 1000000 → kb (S1 ++ x :: S2) →
      srt (S1 ++ S2) → (∀ y ∈ S2, x.f0 ≤ y.f0) →
      ∃ S', S'.Perm (S1 ++ x :: S2) ∧ srt S' ∧ ∀ r, Ev (fun k => api_Cmd_39.l0 k (P ++ S' ++ R) a b (wrap64 (i0 + 1))) r → Ev (fun k => api_Cmd_39.l1 k (P ++ S1 ++ x :: S2 ++ R) a b i0 i) r := by
  intro m
  induction m with
  | zero =>
    intro S1 S2 i hm hi hb hk hs hx
    obtain rfl := List.length_eq_zero_iff.1 hm
    refine ⟨x :: S2, by simp, ?_, fun r hr => ?_⟩
    · unfold srt; rw [List.pairwise_cons]; exact ⟨hx, by simpa [srt] using hs⟩
    · refine Ev.step (fun k => by rw [api_Cmd_39.l1, if_neg (by simp at hi; omega)]) ?_
      simpa using hr
  | succ m ih =>
    intro S1 S2 i hm hi hb hk hs hx
    obtain ⟨T, y, rfl⟩ : ∃ T y, S1 = T ++ [y] := ⟨S1.dropLast, S1.getLast (by intro h; simp [h] at hm), (List.dropLast_concat_getLast _).symm⟩
    simp only [List.length_append, List.length_singleton] at hm hi hb
    have kx := hk x (by simp)
    have ky := hk y (by simp)
    have w1 : wrap64 (i - 1) = i - 1 := wrap_small (by omega) (by omega)
    have f1 : P ++ (T ++ [y]) ++ x :: S2 ++ R = (P ++ T) ++ y :: x :: (S2 ++ R) := by simp
    have f2 : P ++ (T ++ [y]) ++ x :: S2 ++ R = (P ++ T ++ [y]) ++ x :: (S2 ++ R) := by simp
    have g1 : rd_T32 (P ++ (T ++ [y]) ++ x :: S2 ++ R) i = x := by rw [f2]; exact rd_at (by simp; omega)
    have g2 : rd_T32 (P ++ (T ++ [y]) ++ x :: S2 ++ R) (i - 1) = y := by rw [f1]; exact rd_at (by simp; omega)
    have head : ∀ k, api_Cmd_39.l1 (k + 1) (P ++ (T ++ [y]) ++ x :: S2 ++ R) a b i0 i = if x.f0 - y.f0 < 0 then api_Cmd_39.l1 k (P ++ T ++ x :: (y :: S2) ++ R) a b i0 (i - 1) else api_Cmd_39.l0 k (P ++ (T ++ [y]) ++ x :: S2 ++ R) a b (wrap64 (i0 + 1)) := by
      intro k
      rw [api_Cmd_39.l1]
      simp only [w1, g1, g2, less_of kx ky, Option.bind_some]
      rw [if_pos (by omega), if_pos (by omega), if_pos (by simp; omega), if_pos (by omega), if_pos (by simp; omega)]
      congr 2
      rw [f1, eta, eta, swap_nb _ _ _ _ _ _ (by simp; omega) (by simp; omega)]; simp
    by_cases h : x.f0 - y.f0 < 0
    · obtain ⟨S', p1, p2, p3⟩ := ih T (y :: S2) (i - 1) (by omega) (by omega) (by simp only [List.length_cons]; omega) (fun z hz => hk z (by simp at hz ⊢; grind)) (by simpa using hs)
        (by intro z hz; rcases List.mem_cons.1 hz with rfl | hz
            · omega
            · exact hx z hz)
      refine ⟨S', p1.trans ?_, p2, fun r hr => Ev.step (fun k => by rw [head, if_pos h]) (p3 r hr)⟩
      simp only [List.append_assoc, List.singleton_append]
      exact (List.Perm.swap _ _ _).append_left T
    · refine ⟨T ++ [y] ++ x :: S2, List.Perm.refl _, ?_, fun r hr => Ev.step (fun k => by rw [head, if_neg h]) (by simpa using hr)⟩
      unfold srt at hs ⊢
      rw [List.pairwise_append] at hs ⊢
      refine ⟨hs.1, List.pairwise_cons.2 ⟨hx, hs.2.1⟩, fun u hu v hv => ?_⟩
      rcases List.mem_cons.1 hv with rfl | hv
      · have : u.f0 ≤ y.f0 := by
          rcases List.mem_append.1 hu with hu | hu
          · exact (List.pairwise_append.1 hs.1).2.2 u hu y (by simp)
          · simp at hu; rw [hu]; exact Int.le_refl _
        omega
      · exact hs.2.2 u hu v hv
theorem insert_go (a b n : Int) (P Q : List S32) (ha : a = P.length) :
    ∀ (m : Nat) (S R : List S32) (i : Int), R.length = m → i = P.length + S.length → b = P.length + S.length + R.length → P.length + S.length + R.length < 1000000 → kb (S ++ R) → srt S →
      ∃ S', S'.Perm (S ++ R) ∧ srt S' ∧ Ev (fun k => api_Cmd_39.l0 k (P ++ S ++ R ++ Q) a b i) (P ++ S' ++ Q) := by
  intro m
  induction m with
  | zero =>
    intro S R i hm hi hb hl hk hs
    obtain rfl := List.length_eq_zero_iff.1 hm
    refine ⟨S, by simp, hs, Ev.step (f := fun _ => some (P ++ S ++ Q)) (fun k => by rw [api_Cmd_39.l0, if_neg (by simp at hb; omega)]; simp) (Ev.now _)⟩
  | succ m ih =>
    intro S R i hm hi hb hl hk hs
    obtain ⟨x, R, rfl⟩ : ∃ x T, R = x :: T := by cases R with
      | nil => simp at hm
      | cons x T => exact ⟨x, T, rfl⟩
    simp only [List.length_cons] at hm hb hl
    obtain ⟨S1, p1, p2, p3⟩ := insert_one a b n i P (R ++ Q) ha x S.length S [] i rfl hi (by simp; omega) (fun z hz => hk z (by simp at hz ⊢; grind)) (by simpa using hs) (by simp)
    have pl : S1.length = S.length + 1 := by rw [p1.length_eq]; simp
    have w1 : wrap64 (i + 1) = i + 1 := wrap_small (by omega) (by omega)
    have pp : (S1 ++ R).Perm (S ++ x :: R) := by have := p1.append_right R; simpa using this
    obtain ⟨S2, q1, q2, q3⟩ := ih S1 R (i + 1) (by omega) (by omega) (by omega) (by omega) (kb_perm pp hk) p2
    refine ⟨S2, q1.trans pp, q2, Ev.step (f := fun k => api_Cmd_39.l1 k (P ++ S ++ x :: R ++ Q) a b i i) (fun k => by rw [api_Cmd_39.l0, if_pos (by omega)]) ?_⟩
    have := p3 (P ++ S2 ++ Q) (by rw [w1]; simpa using q3)
    simpa using this
theorem insertion_ev (P M Q : List S32) (a b n : Int) (ha : a = P.length) (hb : b = P.length + M.length) (hl : P.length + M.length < 1000000) (hk : kb M) :
    ∃ M', M'.Perm M ∧ srt M' ∧ Ev (fun k => api_Cmd_39.f k (P ++ M ++ Q) a b n) (P ++ M' ++ Q) := by
  cases M with
  | nil =>
    refine ⟨[], List.Perm.refl _, List.Pairwise.nil, Ev.step (f := fun _ => some (P ++ [] ++ Q)) (fun k => ?_) (Ev.now _)⟩
    rw [api_Cmd_39.f, wrap_small (by omega) (by omega), api_Cmd_39.l0, if_neg (by simp at hb; omega)]
  | cons x R =>
    simp only [List.length_cons] at hb hl
    obtain ⟨S', p1, p2, p3⟩ := insert_go a b n P Q ha R.length [x] R (a + 1) rfl (by simp; omega) (by simp; omega) (by simp; omega) (by simpa using hk) (List.pairwise_singleton _ _)
    refine ⟨S', by simpa using p1, p2, Ev.congr (fun k => by rw [api_Cmd_39.f, wrap_small (by omega) (by omega)]) (by simpa using p3)⟩
/-! rising lists, cut -/
theorem srt_take {U : List S32} (h : srt U) (c : Nat) (hc : c < U.length) : ∀ x ∈ U.take (c + 1), x.f0 ≤ (U.getD c z32).f0 := by
  intro x hx
  obtain ⟨j, hj, rfl⟩ := List.mem_iff_getElem.1 hx
  simp only [List.length_take] at hj
  rw [List.getElem_take, List.getD_eq_getElem?_getD, List.getElem?_eq_getElem hc]
  simp only [Option.getD_some]
  by_cases e : j = c
  · subst e; exact Int.le_refl _
  · exact List.pairwise_iff_getElem.1 h j c (by omega) hc (by omega)
theorem srt_drop {U : List S32} (h : srt U) (c : Nat) (hc : c < U.length) : ∀ x ∈ U.drop c, (U.getD c z32).f0 ≤ x.f0 := by
  intro x hx
  obtain ⟨j, hj, rfl⟩ := List.mem_iff_getElem.1 hx
  simp only [List.length_drop] at hj
  rw [List.getElem_drop, List.getD_eq_getElem?_getD, List.getElem?_eq_getElem hc]
  simp only [Option.getD_some]
  by_cases e : j = 0
  · subst e; exact Int.le_refl _
  · exact List.pairwise_iff_getElem.1 h c (c + j) hc (by omega) (by omega)
theorem srt_ap {A B : List S32} (ha : srt A) (hb : srt B) (h : ∀ x ∈ A, ∀ y ∈ B, x.f0 ≤ y.f0) : srt (A ++ B) := List.pairwise_append.2 ⟨ha, hb, h⟩
theorem srt_tk {A : List S32} (h : srt A) (n : Nat) : srt (A.take n) := List.Pairwise.sublist (List.take_sublist _ _) h
theorem srt_dp {A : List S32} (h : srt A) (n : Nat) : srt (A.drop n) := List.Pairwise.sublist (List.drop_sublist _ _) h
theorem getD_mem {U : List S32} {c : Nat} (hc : c < U.length) : U.getD c z32 ∈ U := by
  rw [List.getD_eq_getElem?_getD, List.getElem?_eq_getElem hc]; exact List.getElem_mem _
theorem half {x y : Int} (h0 : 0 ≤ x) (h1 : x < 1000000) (h2 : 0 ≤ y) (h3 : y < 1000000) : wrap64 (IntKind.u64.wrap (wrap64 (x + y)) / 2) = (x + y) / 2 := by
  rw [wrap_small (x := x + y) (by omega) (by omega)]
  have : IntKind.u64.wrap (x + y) = x + y := by
    unfold IntKind.wrap; simp [IntKind.signed, IntKind.bits]; omega
  rw [this, wrap_small (by omega) (by omega)]
/-! one element of its own into the other row: by neighbours -/
theorem up_go (i : Int) (Q : List S32) (x : S32) : ∀ (V P : List S32) (j : Int), j = P.length → i - 1 = P.length + V.length → P.length + V.length < 1000000 →
    Ev (fun k => api_Cmd_40.l1 k (P ++ x :: V ++ Q) i j) (P ++ V ++ x :: Q)
  | [], P, j, hj, hi, hl => by
    simp only [List.length_nil] at hi hl
    refine Ev.step (f := fun _ => some (P ++ [] ++ x :: Q)) (fun k => ?_) (Ev.now _)
    rw [api_Cmd_40.l1, wrap_small (x := i - 1) (by omega) (by omega), if_neg (by omega)]; simp
  | y :: V, P, j, hj, hi, hl => by
    simp only [List.length_cons] at hi hl
    have w1 : wrap64 (i - 1) = i - 1 := wrap_small (by omega) (by omega)
    have w2 : wrap64 (j + 1) = j + 1 := wrap_small (by omega) (by omega)
    have g1 : rd_T32 (P ++ x :: y :: V ++ Q) j = x := by rw [show P ++ x :: y :: V ++ Q = P ++ x :: (y :: V ++ Q) by simp]; exact rd_at hj
    have g2 : rd_T32 (P ++ x :: y :: V ++ Q) (j + 1) = y := by rw [show P ++ x :: y :: V ++ Q = (P ++ [x]) ++ y :: (V ++ Q) by simp]; exact rd_at (by simp; omega)
    refine Ev.step (f := fun k => api_Cmd_40.l1 k ((P ++ [y]) ++ x :: V ++ Q) i (j + 1)) (fun k => ?_) ?_
    · rw [api_Cmd_40.l1]
      simp only [w1, w2, g1, g2]
      rw [if_pos (by omega), if_pos (by omega), if_pos (by simp; omega), if_pos (by omega), if_pos (by simp; omega)]
      congr 1
      rw [eta, eta, show P ++ x :: y :: V ++ Q = P ++ x :: y :: (V ++ Q) by simp, swap_nb' _ _ _ _ _ _ hj (by omega)]; simp
    · have := up_go i Q x V (P ++ [y]) (j + 1) (by simp; omega) (by simp; omega) (by simp; omega)
      simpa using this
theorem down_go (a : Int) (P : List S32) (ha : a = P.length) (x : S32) : ∀ (m : Nat) (U Q : List S32) (j : Int), U.length = m → j = P.length + U.length → P.length + U.length < 1000000 →
    Ev (fun k => api_Cmd_40.l3 k (P ++ U ++ x :: Q) a j) (P ++ x :: U ++ Q) := by
  intro m
  induction m with
  | zero =>
    intro U Q j hm hj hl
    obtain rfl := List.length_eq_zero_iff.1 hm
    refine Ev.step (f := fun _ => some (P ++ [x] ++ Q)) (fun k => ?_) (Ev.now _)
    rw [api_Cmd_40.l3, if_neg (by simp at hj; omega)]; simp
  | succ m ih =>
    intro U Q j hm hj hl
    obtain ⟨T, y, rfl⟩ : ∃ T y, U = T ++ [y] := ⟨U.dropLast, U.getLast (by intro h; simp [h] at hm), (List.dropLast_concat_getLast _).symm⟩
    simp only [List.length_append, List.length_singleton] at hm hj hl
    have w1 : wrap64 (j - 1) = j - 1 := wrap_small (by omega) (by omega)
    have f1 : P ++ (T ++ [y]) ++ x :: Q = (P ++ T) ++ y :: x :: Q := by simp
    have g1 : rd_T32 (P ++ (T ++ [y]) ++ x :: Q) j = x := rd_at (by simp; omega)
    have g2 : rd_T32 (P ++ (T ++ [y]) ++ x :: Q) (j - 1) = y := by rw [f1]; exact rd_at (by simp; omega)
    refine Ev.step (f := fun k => api_Cmd_40.l3 k (P ++ T ++ x :: (y :: Q)) a (j - 1)) (fun k => ?_) ?_
    · rw [api_Cmd_40.l3]
      simp only [w1, g1, g2]
      rw [if_pos (by omega), if_pos (by omega), if_pos (by simp; omega), if_pos (by omega), if_pos (by simp; omega)]
      congr 1
      rw [eta, eta, f1, swap_nb _ _ _ _ _ _ (by simp; omega) (by simp; omega)]
    · have := ih T (y :: Q) (j - 1) (by omega) (by omega) (by omega)
      simpa using this
/-! where it belongs: by halves -/
theorem find_up (a m : Int) (P V Q : List S32) (x : S32) (ha : a = P.length) (hm : m = P.length + 1) (hl : P.length + 1 + V.length < 1000000) (hk : kb (x :: V)) (hs : srt V) :
    ∀ (d i j : Nat), j - i ≤ d → i ≤ j → j ≤ V.length → (∀ y ∈ V.take i, y.f0 ≤ x.f0) → (∀ y ∈ V.drop j, x.f0 ≤ y.f0) →
    ∃ t, t ≤ V.length ∧ (∀ y ∈ V.take t, y.f0 ≤ x.f0) ∧ (∀ y ∈ V.drop t, x.f0 ≤ y.f0) ∧ ∀ r, Ev (fun k => api_Cmd_40.l1 k (P ++ x :: V ++ Q) (m + t) a) r → Ev (fun k => api_Cmd_40.l0 k (P ++ x :: V ++ Q) a (m + i) (m + j)) r := by
  intro d
  induction d with
  | zero =>
    intro i j hd hij hj h1 h2
    obtain rfl : i = j := by omega
    exact ⟨i, hj, h1, h2, fun r hr => Ev.step (fun k => by rw [api_Cmd_40.l0, if_neg (by omega)]) hr⟩
  | succ d ih =>
    intro i j hd hij hj h1 h2
    by_cases e : i = j
    · subst e; exact ⟨i, hj, h1, h2, fun r hr => Ev.step (fun k => by rw [api_Cmd_40.l0, if_neg (by omega)]) hr⟩
    obtain ⟨c, hc⟩ : ∃ c : Nat, (m + i + (m + j)) / 2 = m + c := ⟨((m + i + (m + j)) / 2 - m).toNat, by omega⟩
    have c1 : i ≤ c := by omega
    have c2 : c < j := by omega
    have hh : wrap64 (IntKind.u64.wrap (wrap64 (m + i + (m + j))) / 2) = m + c := by rw [half (by omega) (by omega) (by omega) (by omega), hc]
    have w2 : wrap64 (m + c + 1) = m + (c + 1 : Nat) := by rw [wrap_small (by omega) (by omega)]; omega
    have g1 : rd_T32 (P ++ x :: V ++ Q) a = x := by rw [show P ++ x :: V ++ Q = P ++ x :: (V ++ Q) by simp]; exact rd_at ha
    have g2 : rd_T32 (P ++ x :: V ++ Q) (m + c) = V.getD c z32 := by
      rw [show P ++ x :: V ++ Q = (P ++ [x]) ++ (V ++ Q) by simp, rd_ap (j := c) (by simp; omega), rd_apl (by omega)]
    have kx := hk x (by simp)
    have ky := hk (V.getD c z32) (List.mem_cons_of_mem _ (getD_mem (by omega)))
    have head : ∀ k, api_Cmd_40.l0 (k + 1) (P ++ x :: V ++ Q) a (m + i) (m + j) = if (V.getD c z32).f0 - x.f0 < 0 then api_Cmd_40.l0 k (P ++ x :: V ++ Q) a (m + (c + 1 : Nat)) (m + j) else api_Cmd_40.l0 k (P ++ x :: V ++ Q) a (m + i) (m + c) := by
      intro k
      rw [api_Cmd_40.l0]
      simp only [hh, w2, g1, g2, less_of ky kx, Option.bind_some]
      rw [if_pos (by omega), if_pos (by omega), if_pos (by simp; omega), if_pos (by omega), if_pos (by simp; omega)]
    by_cases h : (V.getD c z32).f0 - x.f0 < 0
    · obtain ⟨t, t1, t2, t3, t4⟩ := ih (c + 1) j (by omega) (by omega) hj (fun y hy => by have := srt_take hs c (by omega) y hy; omega) h2
      exact ⟨t, t1, t2, t3, fun r hr => Ev.step (fun k => by rw [head, if_pos h]) (t4 r hr)⟩
    · obtain ⟨t, t1, t2, t3, t4⟩ := ih i c (by omega) (by omega) (by omega) h1 (fun y hy => by have := srt_drop hs c (by omega) y hy; omega)
      exact ⟨t, t1, t2, t3, fun r hr => Ev.step (fun k => by rw [head, if_neg h]) (t4 r hr)⟩
theorem find_down (a m : Int) (P U Q : List S32) (x : S32) (ha : a = P.length) (hm : m = P.length + U.length) (hl : P.length + 1 + U.length < 1000000) (hk : kb (x :: U)) (hs : srt U) :
    ∀ (d i j : Nat), j - i ≤ d → i ≤ j → j ≤ U.length → (∀ y ∈ U.take i, y.f0 ≤ x.f0) → (∀ y ∈ U.drop j, x.f0 ≤ y.f0) →
    ∃ t, t ≤ U.length ∧ (∀ y ∈ U.take t, y.f0 ≤ x.f0) ∧ (∀ y ∈ U.drop t, x.f0 ≤ y.f0) ∧ ∀ r, Ev (fun k => api_Cmd_40.l3 k (P ++ U ++ x :: Q) (a + t) m) r → Ev (fun k => api_Cmd_40.l2 k (P ++ U ++ x :: Q) m (a + i) (a + j)) r := by
  intro d
  induction d with
  | zero =>
    intro i j hd hij hj h1 h2
    obtain rfl : i = j := by omega
    exact ⟨i, hj, h1, h2, fun r hr => Ev.step (fun k => by rw [api_Cmd_40.l2, if_neg (by omega)]) hr⟩
  | succ d ih =>
    intro i j hd hij hj h1 h2
    by_cases e : i = j
    · subst e; exact ⟨i, hj, h1, h2, fun r hr => Ev.step (fun k => by rw [api_Cmd_40.l2, if_neg (by omega)]) hr⟩
    obtain ⟨c, hc⟩ : ∃ c : Nat, (a + i + (a + j)) / 2 = a + c := ⟨((a + i + (a + j)) / 2 - a).toNat, by omega⟩
    have c1 : i ≤ c := by omega
    have c2 : c < j := by omega
    have hh : wrap64 (IntKind.u64.wrap (wrap64 (a + i + (a + j))) / 2) = a + c := by rw [half (by omega) (by omega) (by omega) (by omega), hc]
    have w2 : wrap64 (a + c + 1) = a + (c + 1 : Nat) := by rw [wrap_small (by omega) (by omega)]; omega
    have g1 : rd_T32 (P ++ U ++ x :: Q) m = x := rd_at (by simp; omega)
    have g2 : rd_T32 (P ++ U ++ x :: Q) (a + c) = U.getD c z32 := by
      rw [show P ++ U ++ x :: Q = P ++ (U ++ x :: Q) by simp, rd_ap (j := c) (by omega), rd_apl (by omega)]
    have kx := hk x (by simp)
    have ky := hk (U.getD c z32) (List.mem_cons_of_mem _ (getD_mem (by omega)))
    have head : ∀ k, api_Cmd_40.l2 (k + 1) (P ++ U ++ x :: Q) m (a + i) (a + j) = if x.f0 - (U.getD c z32).f0 < 0 then api_Cmd_40.l2 k (P ++ U ++ x :: Q) m (a + i) (a + c) else api_Cmd_40.l2 k (P ++ U ++ x :: Q) m (a + (c + 1 : Nat)) (a + j) := by
      intro k
      rw [api_Cmd_40.l2]
      simp only [hh, w2, g1, g2, less_of kx ky, Option.bind_some]
      rw [if_pos (by omega), if_pos (by omega), if_pos (by simp; omega), if_pos (by omega), if_pos (by simp; omega)]
    by_cases h : x.f0 - (U.getD c z32).f0 < 0
    · obtain ⟨t, t1, t2, t3, t4⟩ := ih i c (by omega) (by omega) (by omega) h1 (fun y hy => by have := srt_drop hs c (by omega) y hy; omega)
      exact ⟨t, t1, t2, t3, fun r hr => Ev.step (fun k => by rw [head, if_pos h]) (t4 r hr)⟩
    · obtain ⟨t, t1, t2, t3, t4⟩ := ih (c + 1) j (by omega) (by omega) hj (fun y hy => by have := srt_take hs c (by omega) y hy; omega) h2
      exact ⟨t, t1, t2, t3, fun r hr => Ev.step (fun k => by rw [head, if_neg h]) (t4 r hr)⟩
/-! the merge -/
def MergeGoal (P U V Q : List S32) (a m b c : Int) : Prop :=
  ∃ W, W.Perm (U ++ V) ∧ srt W ∧ Ev (fun k => api_Cmd_40.f k (P ++ U ++ V ++ Q) a m b c) (P ++ W ++ Q)
theorem merge_left (P V Q : List S32) (x : S32) (a m b c : Int) (ha : a = P.length) (hm : m = P.length + 1) (hb : b = P.length + 1 + V.length) (hl : P.length + 1 + V.length < 1000000)
    (hk : kb (x :: V)) (hv : srt V) : MergeGoal P [x] V Q a m b c := by
  obtain ⟨t, t1, t2, t3, t4⟩ := find_up a m P V Q x ha hm hl hk hv V.length 0 V.length (by omega) (by omega) (Nat.le_refl _) (by simp) (by simp)
  refine ⟨V.take t ++ x :: V.drop t, ?_, srt_ap (srt_tk hv t) (List.pairwise_cons.2 ⟨t3, srt_dp hv t⟩) ?_, ?_⟩
  · refine List.perm_middle.trans ?_; simp
  · intro u hu v hv'
    rcases List.mem_cons.1 hv' with rfl | hv'
    · exact t2 u hu
    · have := t2 u hu; have := t3 v hv'; omega
  · refine Ev.step (f := fun k => api_Cmd_40.l0 k (P ++ x :: V ++ Q) a (m + (0 : Nat)) (m + V.length)) (fun k => ?_) (t4 _ ?_)
    · rw [api_Cmd_40.f, wrap_small (x := m - a) (by omega) (by omega), if_pos (by omega)]
      have e1 : m + (0 : Nat) = m := by omega
      have e2 : m + (V.length : Nat) = b := by omega
      rw [e1, e2]; simp
    · have := up_go (m + t) (V.drop t ++ Q) x (V.take t) P a ha (by simp; omega) (by simp; omega)
      have e : P ++ x :: V ++ Q = P ++ x :: V.take t ++ (V.drop t ++ Q) := by rw [show P ++ x :: V.take t ++ (V.drop t ++ Q) = P ++ x :: (V.take t ++ V.drop t) ++ Q by simp only [List.append_assoc, List.cons_append], List.take_append_drop]
      rw [e]; simpa using this
theorem merge_right (P U Q : List S32) (x : S32) (a m b c : Int) (ha : a = P.length) (hm : m = P.length + U.length) (hb : b = P.length + U.length + 1) (hl : P.length + 1 + U.length < 1000000)
    (hk : kb (x :: U)) (hv : srt U) (h1 : U.length ≠ 1) : MergeGoal P U [x] Q a m b c := by
  obtain ⟨t, t1, t2, t3, t4⟩ := find_down a m P U Q x ha hm hl hk hv U.length 0 U.length (by omega) (by omega) (Nat.le_refl _) (by simp) (by simp)
  refine ⟨U.take t ++ x :: U.drop t, ?_, srt_ap (srt_tk hv t) (List.pairwise_cons.2 ⟨t3, srt_dp hv t⟩) ?_, ?_⟩
  · refine List.perm_middle.trans ?_; simp
    exact (List.perm_append_singleton x U).symm
  · intro u hu v hv'
    rcases List.mem_cons.1 hv' with rfl | hv'
    · exact t2 u hu
    · have := t2 u hu; have := t3 v hv'; omega
  · refine Ev.step (f := fun k => api_Cmd_40.l2 k (P ++ U ++ x :: Q) m (a + (0 : Nat)) (a + U.length)) (fun k => ?_) (t4 _ ?_)
    · rw [api_Cmd_40.f, wrap_small (x := m - a) (by omega) (by omega), if_neg (by omega), wrap_small (x := b - m) (by omega) (by omega), if_pos (by omega)]
      have e1 : a + (0 : Nat) = a := by omega
      have e2 : a + (U.length : Nat) = m := by omega
      rw [e1, e2]; simp
    · have := down_go (a + t) (P ++ U.take t) (by simp; omega) x (U.drop t).length (U.drop t) Q m rfl (by simp; omega) (by simp; omega)
      have e : P ++ U ++ x :: Q = (P ++ U.take t) ++ U.drop t ++ x :: Q := by simp
      rw [e]; simpa using this
theorem find_cut (a m b n h c0 : Int) (P U V Q : List S32) (ha : a = P.length) (hm : m = P.length + U.length) (hb : b = P.length + U.length + V.length) (hl : P.length + U.length + V.length < 500000)
    (hk : kb (U ++ V)) (hu : srt U) (hv : srt V) (H : Nat) (hH : h = P.length + H) (hn : n = h + m) :
    ∀ (d i j : Nat), j - i ≤ d → i ≤ j → j ≤ U.length → j ≤ H → H ≤ i + V.length →
      (∀ x ∈ U.take i, ∀ y ∈ V.drop (H - i), x.f0 ≤ y.f0) → (∀ y ∈ V.take (H - j), ∀ x ∈ U.drop j, y.f0 ≤ x.f0) →
    ∃ s, i ≤ s ∧ s ≤ j ∧ (∀ x ∈ U.take s, ∀ y ∈ V.drop (H - s), x.f0 ≤ y.f0) ∧ (∀ y ∈ V.take (H - s), ∀ x ∈ U.drop s, y.f0 ≤ x.f0) ∧
      ∀ r, Ev (fun k => if a + s < m then api_Cmd_40.j6 k (P ++ U ++ V ++ Q) a m b c0 h (a + s) (n - (a + s)) (decide (m < n - (a + s))) else api_Cmd_40.j6 k (P ++ U ++ V ++ Q) a m b c0 h (a + s) (n - (a + s)) false) r →
        Ev (fun k => api_Cmd_40.l4 k (P ++ U ++ V ++ Q) a m b c0 h n (a + i) (a + j) (n - 1)) r := by
  intro d
  induction d with
  | zero =>
    intro i j hd hij hj hj2 hi2 h1 h2
    obtain rfl : i = j := by omega
    refine ⟨i, Nat.le_refl _, Nat.le_refl _, h1, h2, fun r hr => Ev.step (fun k => ?_) hr⟩
    rw [api_Cmd_40.l4, if_neg (by omega), wrap_small (x := n - (a + i)) (by omega) (by omega)]
  | succ d ih =>
    intro i j hd hij hj hj2 hi2 h1 h2
    by_cases e : i = j
    · subst e
      refine ⟨i, Nat.le_refl _, Nat.le_refl _, h1, h2, fun r hr => Ev.step (fun k => ?_) hr⟩
      rw [api_Cmd_40.l4, if_neg (by omega), wrap_small (x := n - (a + i)) (by omega) (by omega)]
    obtain ⟨c, hc⟩ : ∃ c : Nat, (a + i + (a + j)) / 2 = a + c := ⟨((a + i + (a + j)) / 2 - a).toNat, by omega⟩
    have c1 : i ≤ c := by omega
    have c2 : c < j := by omega
    have hh : wrap64 (IntKind.u64.wrap (wrap64 (a + i + (a + j))) / 2) = a + c := by rw [half (by omega) (by omega) (by omega) (by omega), hc]
    have w2 : wrap64 (a + c + 1) = a + (c + 1 : Nat) := by rw [wrap_small (by omega) (by omega)]; omega
    have w3 : wrap64 (n - 1 - (a + c)) = m + (H - 1 - c : Nat) := by rw [wrap_small (by omega) (by omega)]; omega
    have g1 : rd_T32 (P ++ U ++ V ++ Q) (a + c) = U.getD c z32 := by
      rw [show P ++ U ++ V ++ Q = P ++ (U ++ (V ++ Q)) by simp, rd_ap (j := c) (by omega), rd_apl (by omega)]
    have g2 : rd_T32 (P ++ U ++ V ++ Q) (m + (H - 1 - c : Nat)) = V.getD (H - 1 - c) z32 := by
      rw [show P ++ U ++ V ++ Q = (P ++ U) ++ (V ++ Q) by simp, rd_ap (j := H - 1 - c) (by simp; omega), rd_apl (by omega)]
    have kx := hk (U.getD c z32) (List.mem_append_left _ (getD_mem (by omega)))
    have ky := hk (V.getD (H - 1 - c) z32) (List.mem_append_right _ (getD_mem (by omega)))
    have head : ∀ k, api_Cmd_40.l4 (k + 1) (P ++ U ++ V ++ Q) a m b c0 h n (a + i) (a + j) (n - 1) = if (V.getD (H - 1 - c) z32).f0 - (U.getD c z32).f0 < 0 then api_Cmd_40.l4 k (P ++ U ++ V ++ Q) a m b c0 h n (a + i) (a + c) (n - 1) else api_Cmd_40.l4 k (P ++ U ++ V ++ Q) a m b c0 h n (a + (c + 1 : Nat)) (a + j) (n - 1) := by
      intro k
      rw [api_Cmd_40.l4]
      simp only [hh, w2, w3, g1, g2, less_of ky kx, Option.bind_some]
      rw [if_pos (by omega), if_pos (by omega), if_pos (by simp; omega), if_pos (by omega), if_pos (by simp; omega)]
    by_cases hlt : (V.getD (H - 1 - c) z32).f0 - (U.getD c z32).f0 < 0
    · obtain ⟨s, s1, s2, s3, s4, s5⟩ := ih i c (by omega) (by omega) (by omega) (by omega) hi2 h1
        (fun y hy x hx => by
          have := srt_drop hu c (by omega) x hx
          have := srt_take hv (H - 1 - c) (by omega) y (by rw [show H - 1 - c + 1 = H - c by omega]; exact hy)
          omega)
      exact ⟨s, s1, by omega, s3, s4, fun r hr => Ev.step (fun k => by rw [head, if_pos hlt]) (s5 r hr)⟩
    · obtain ⟨s, s1, s2, s3, s4, s5⟩ := ih (c + 1) j (by omega) (by omega) hj hj2 (by omega)
        (fun x hx y hy => by
          have := srt_take hu c (by omega) x hx
          have := srt_drop hv (H - 1 - c) (by omega) y (by rw [show H - 1 - c = H - (c + 1) by omega]; exact hy)
          omega) h2
      exact ⟨s, by omega, s2, s3, s4, fun r hr => Ev.step (fun k => by rw [head, if_neg hlt]) (s5 r hr)⟩
theorem take_drop_parts (L : List S32) (n : Nat) : L.take n ++ L.drop n = L := List.take_append_drop n L
/-- behind the turn: both halves -/
theorem merge_tail (a m b c h s0 e0 : Int) (P U1 V1 U2 V2 Q : List S32) (ha : a = P.length) (hs : s0 = P.length + U1.length) (hh : h = P.length + U1.length + V1.length) (he : e0 = h + U2.length)
    (hb : b = e0 + V2.length) (hl : P.length + U1.length + V1.length + U2.length + V2.length < 500000)
    (k1 : kb (U1 ++ V1)) (k2 : kb (U2 ++ V2)) (hu1 : srt U1) (hu2 : srt U2) (hv1 : srt V1) (hv2 : srt V2)
    (hx : ∀ x ∈ U1 ++ V1, ∀ y ∈ U2 ++ V2, x.f0 ≤ y.f0)
    (ih1 : ∀ P Q, 0 < U1.length → 0 < V1.length → a = P.length → P.length + U1.length + V1.length < 500000 → MergeGoal P U1 V1 Q a s0 h c)
    (ih2 : ∀ P Q, 0 < U2.length → 0 < V2.length → h = P.length → P.length + U2.length + V2.length < 500000 → MergeGoal P U2 V2 Q h e0 b c) :
    ∃ W, W.Perm (U1 ++ V1 ++ (U2 ++ V2)) ∧ srt W ∧ Ev (fun k => api_Cmd_40.j7 k (P ++ U1 ++ V1 ++ U2 ++ V2 ++ Q) a b c h s0 e0) (P ++ W ++ Q) := by
  -- the left half
  have left : ∃ W1, W1.Perm (U1 ++ V1) ∧ srt W1 ∧ ((0 < U1.length ∧ 0 < V1.length ∧ Ev (fun k => api_Cmd_40.f k (P ++ U1 ++ V1 ++ (U2 ++ V2 ++ Q)) a s0 h c) (P ++ W1 ++ (U2 ++ V2 ++ Q))) ∨ (¬ (0 < U1.length ∧ 0 < V1.length) ∧ W1 = U1 ++ V1)) := by
    by_cases h0 : 0 < U1.length ∧ 0 < V1.length
    · obtain ⟨W, p1, p2, p3⟩ := ih1 P (U2 ++ V2 ++ Q) h0.1 h0.2 ha (by omega)
      exact ⟨W, p1, p2, Or.inl ⟨h0.1, h0.2, p3⟩⟩
    · refine ⟨U1 ++ V1, List.Perm.refl _, ?_, Or.inr ⟨h0, rfl⟩⟩
      have : U1 = [] ∨ V1 = [] := by
        rcases Nat.eq_zero_or_pos U1.length with e | e
        · exact Or.inl (List.length_eq_zero_iff.1 e)
        · exact Or.inr (List.length_eq_zero_iff.1 (by omega))
      rcases this with rfl | rfl
      · simpa using hv1
      · simpa using hu1
  obtain ⟨W1, p1, p2, p3⟩ := left
  have l1 : W1.length = U1.length + V1.length := by rw [p1.length_eq]; simp
  have right : ∃ W2, W2.Perm (U2 ++ V2) ∧ srt W2 ∧ ((0 < U2.length ∧ 0 < V2.length ∧ Ev (fun k => api_Cmd_40.f k ((P ++ W1) ++ U2 ++ V2 ++ Q) h e0 b c) ((P ++ W1) ++ W2 ++ Q)) ∨ (¬ (0 < U2.length ∧ 0 < V2.length) ∧ W2 = U2 ++ V2)) := by
    by_cases h0 : 0 < U2.length ∧ 0 < V2.length
    · obtain ⟨W, p1, p2, p3⟩ := ih2 (P ++ W1) Q h0.1 h0.2 (by simp; omega) (by simp; omega)
      exact ⟨W, p1, p2, Or.inl ⟨h0.1, h0.2, p3⟩⟩
    · refine ⟨U2 ++ V2, List.Perm.refl _, ?_, Or.inr ⟨h0, rfl⟩⟩
      have : U2 = [] ∨ V2 = [] := by
        rcases Nat.eq_zero_or_pos U2.length with e | e
        · exact Or.inl (List.length_eq_zero_iff.1 e)
        · exact Or.inr (List.length_eq_zero_iff.1 (by omega))
      rcases this with rfl | rfl
      · simpa using hv2
      · simpa using hu2
  obtain ⟨W2, q1, q2, q3⟩ := right
  refine ⟨W1 ++ W2, p1.append q1, srt_ap p2 q2 (fun x hx' y hy => hx x (p1.mem_iff.1 hx') y (q1.mem_iff.1 hy)), ?_⟩
  -- behind the left half
  have last : Ev (fun k => if h < e0 then (if e0 < b then ((api_Cmd_40.f k (P ++ W1 ++ U2 ++ V2 ++ Q) h e0 b c).bind fun t => some t) else some (P ++ W1 ++ U2 ++ V2 ++ Q)) else some (P ++ W1 ++ U2 ++ V2 ++ Q)) (P ++ (W1 ++ W2) ++ Q) := by
    rcases q3 with ⟨a1, a2, a3⟩ | ⟨a1, rfl⟩
    · refine Ev.congr (fun k => by rw [if_pos (by omega), if_pos (by omega)]) ?_
      refine Ev.bind (f := fun _ t => some t) a3 ?_
      simpa using Ev.now _
    · by_cases a2 : h < e0
      · refine Ev.congr (fun k => by rw [if_pos a2, if_neg (by omega)]) ?_
        simpa using Ev.now _
      · refine Ev.congr (fun k => by rw [if_neg a2]) ?_
        simpa using Ev.now _
  rcases p3 with ⟨a1, a2, a3⟩ | ⟨a1, rfl⟩
  · refine Ev.step (f := fun k => api_Cmd_40.j8 k (P ++ U1 ++ V1 ++ U2 ++ V2 ++ Q) a b c h s0 e0 true) (fun k => ?_) ?_
    · rw [api_Cmd_40.j7, if_pos (by omega), decide_eq_true (by omega)]
    refine Ev.step (f := fun k => (api_Cmd_40.f k (P ++ U1 ++ V1 ++ U2 ++ V2 ++ Q) a s0 h c).bind fun t180 => (if h < e0 then (if e0 < b then ((api_Cmd_40.f k t180 h e0 b c).bind fun t181 => (some t181)) else (some t180)) else (some t180))) (fun k => ?_) ?_
    · rw [api_Cmd_40.j8, if_pos rfl]
    · refine Ev.bind (a := P ++ W1 ++ U2 ++ V2 ++ Q) (by simpa using a3) last
  · have last' : Ev (fun k => api_Cmd_40.j8 k (P ++ U1 ++ V1 ++ U2 ++ V2 ++ Q) a b c h s0 e0 false) (P ++ (U1 ++ V1 ++ W2) ++ Q) := by
      refine Ev.step (fun k => ?_) last
      rw [api_Cmd_40.j8, if_neg (by simp)]; simp
    by_cases a2 : a < s0
    · refine Ev.step (fun k => ?_) last'
      rw [api_Cmd_40.j7, if_pos a2, decide_eq_false (by omega)]
    · refine Ev.step (fun k => ?_) last'
      rw [api_Cmd_40.j7, if_neg a2]
theorem merge_main (c : Int) : ∀ (z : Nat) (P U V Q : List S32) (a m b : Int), U.length + V.length ≤ z → 0 < U.length → 0 < V.length → a = P.length → m = P.length + U.length → b = P.length + U.length + V.length →
    P.length + U.length + V.length < 500000 → kb (U ++ V) → srt U → srt V → MergeGoal P U V Q a m b c := by
  intro z
  induction z with
  | zero => intro P U V Q a m b hz hu hv; omega
  | succ z ih =>
    intro P U V Q a m b hz hu0 hv0 ha hm hb hl hk hu hv
    by_cases u1 : U.length = 1
    · obtain ⟨x, rfl⟩ := List.length_eq_one_iff.1 u1
      simp only [List.length_singleton] at hm hb hl
      exact merge_left P V Q x a m b c ha (by omega) (by omega) (by omega) (by simpa using hk) hv
    by_cases v1 : V.length = 1
    · obtain ⟨x, rfl⟩ := List.length_eq_one_iff.1 v1
      simp only [List.length_singleton] at hb hl
      exact merge_right P U Q x a m b c ha hm hb (by omega) (fun y hy => hk y (by simp at hy ⊢; grind)) hu u1
    obtain ⟨H, hH⟩ : ∃ H : Nat, (a + b) / 2 = P.length + H := ⟨((a + b) / 2 - P.length).toNat, by omega⟩
    have hh : wrap64 (IntKind.u64.wrap (wrap64 (a + b)) / 2) = P.length + H := by rw [half (by omega) (by omega) (by omega) (by omega), hH]
    have hn : wrap64 ((P.length + H : Int) + m) = P.length + H + m := wrap_small (by omega) (by omega)
    -- where the search begins
    have start : ∃ i j : Nat, i ≤ j ∧ j ≤ U.length ∧ j ≤ H ∧ H ≤ i + V.length ∧ (i = 0 ∨ H = i + V.length) ∧ (j = H ∨ j = U.length) ∧
        ∀ k, api_Cmd_40.f (k + 1) (P ++ U ++ V ++ Q) a m b c = api_Cmd_40.j4 k (P ++ U ++ V ++ Q) a m b c (P.length + H) (P.length + H + m) (a + i) (a + j) := by
      by_cases g : m > P.length + H
      · refine ⟨H - V.length, H, by omega, by omega, Nat.le_refl _, by omega, by omega, Or.inl rfl, fun k => ?_⟩
        rw [api_Cmd_40.f]
        simp only [hh, hn]
        rw [wrap_small (x := m - a) (by omega) (by omega), if_neg (by omega), wrap_small (x := b - m) (by omega) (by omega), if_neg (by omega), if_pos g, wrap_small (x := (P.length + H + m : Int) - b) (by omega) (by omega)]
        congr 1 <;> omega
      · refine ⟨0, U.length, by omega, Nat.le_refl _, by omega, by omega, Or.inl rfl, Or.inr rfl, fun k => ?_⟩
        rw [api_Cmd_40.f]
        simp only [hh, hn]
        rw [wrap_small (x := m - a) (by omega) (by omega), if_neg (by omega), wrap_small (x := b - m) (by omega) (by omega), if_neg (by omega), if_neg g]
        congr 1 <;> omega
    obtain ⟨i, j, hij, hj1, hj2, hi1, hi2, hj3, hf⟩ := start
    obtain ⟨s, s1, s2, s3, s4, s5⟩ := find_cut a m b (P.length + H + m) (P.length + H) c P U V Q ha hm hb hl hk hu hv H rfl rfl U.length i j (by omega) hij hj1 hj2 hi1
      (by rcases hi2 with rfl | h
          · simp
          · intro x _ y hy; rw [show H - i = V.length by omega] at hy; simp at hy)
      (by rcases hj3 with rfl | rfl
          · simp
          · intro y _ x hx; simp at hx)
    have lu1 : (U.take s).length = s := by simp; omega
    have lu2 : (U.drop s).length = U.length - s := by simp
    have lv1 : (V.take (H - s)).length = H - s := by simp; omega
    have lv2 : (V.drop (H - s)).length = V.length - (H - s) := by simp
    have eu : U.take s ++ U.drop s = U := List.take_append_drop _ _
    have ev : V.take (H - s) ++ V.drop (H - s) = V := List.take_append_drop _ _
    have su1 := srt_tk hu s
    have su2 := srt_dp hu s
    have sv1 := srt_tk hv (H - s)
    have sv2 := srt_dp hv (H - s)
    have mu1 : ∀ x ∈ U.take s, x ∈ U := fun x h => List.mem_of_mem_take h
    have mu2 : ∀ x ∈ U.drop s, x ∈ U := fun x h => List.mem_of_mem_drop h
    have mv1 : ∀ x ∈ V.take (H - s), x ∈ V := fun x h => List.mem_of_mem_take h
    have mv2 : ∀ x ∈ V.drop (H - s), x ∈ V := fun x h => List.mem_of_mem_drop h
    have cu : ∀ x ∈ U.take s, ∀ y ∈ U.drop s, x.f0 ≤ y.f0 := by have h := hu; unfold srt at h; rw [← eu] at h; exact (List.pairwise_append.1 h).2.2
    have cv : ∀ x ∈ V.take (H - s), ∀ y ∈ V.drop (H - s), x.f0 ≤ y.f0 := by have h := hv; unfold srt at h; rw [← ev] at h; exact (List.pairwise_append.1 h).2.2
    generalize U.take s = U1 at *
    generalize U.drop s = U2 at *
    generalize V.take (H - s) = V1 at *
    generalize V.drop (H - s) = V2 at *
    subst eu ev
    simp only [List.length_append] at *
    obtain ⟨W, w1, w2, w3⟩ := merge_tail a m b c (P.length + H) (a + s) (P.length + H + m - (a + s)) P U1 V1 U2 V2 Q ha (by omega) (by omega) (by omega) (by omega) (by omega)
      (fun x hx => hk x (by simp at hx ⊢; grind)) (fun x hx => hk x (by simp at hx ⊢; grind)) su1 su2 sv1 sv2
      (by intro x hx y hy
          rcases List.mem_append.1 hx with hx | hx <;> rcases List.mem_append.1 hy with hy | hy
          · exact cu x hx y hy
          · exact s3 x hx y hy
          · exact s4 x hx y hy
          · exact cv x hx y hy)
      (fun P' Q' g1 g2 g3 g4 => ih P' U1 V1 Q' a (a + s) (P.length + H) (by omega) g1 g2 g3 (by omega) (by omega) g4 (fun x hx => hk x (by simp at hx ⊢; grind)) su1 sv1)
      (fun P' Q' g1 g2 g3 g4 => ih P' U2 V2 Q' (P.length + H) (P.length + H + m - (a + s)) b (by omega) g1 g2 g3 (by omega) (by omega) g4 (fun x hx => hk x (by simp at hx ⊢; grind)) su2 sv2)
    refine ⟨W, w1.trans ?_, w2, ?_⟩
    · simp only [List.append_assoc]
      refine List.Perm.append_left U1 ?_
      simp only [← List.append_assoc]
      exact List.Perm.append_right V2 List.perm_append_comm
    · refine Ev.step hf (Ev.step (f := fun k => api_Cmd_40.l4 k (P ++ (U1 ++ U2) ++ (V1 ++ V2) ++ Q) a m b c (P.length + H) (P.length + H + m) (a + i) (a + j) (P.length + H + m - 1)) (fun k => ?_) (s5 _ ?_))
      · rw [api_Cmd_40.j4, wrap_small (x := (P.length + H + m : Int) - 1) (by omega) (by omega)]
      have turned : ∀ q, (q = true → 0 < U2.length ∧ 0 < V1.length) → (q = false → U2 = [] ∨ V1 = []) → Ev (fun k => api_Cmd_40.j6 k (P ++ (U1 ++ U2) ++ (V1 ++ V2) ++ Q) a m b c (P.length + H) (a + s) (P.length + H + m - (a + s)) q) (P ++ W ++ Q) := by
        intro q hq1 hq2
        cases q with
        | true =>
          obtain ⟨g1, g2⟩ := hq1 rfl
          refine Ev.step (f := fun k => (api_Cmd_46.f k (P ++ (U1 ++ U2) ++ (V1 ++ V2) ++ Q) (a + s) m (P.length + H + m - (a + s)) c).bind fun t179 => (api_Cmd_40.j7 k t179 a b c (P.length + H) (a + s) (P.length + H + m - (a + s)))) (fun k => by rw [api_Cmd_40.j6, if_pos rfl]) ?_
          have := rotate_ev (P ++ U1) U2 V1 (V2 ++ Q) (a + s) m (P.length + H + m - (a + s)) c (by simp; omega) (by simp; omega) (by simp; omega) g1 g2 (by simp; omega)
          refine Ev.bind (a := P ++ U1 ++ V1 ++ U2 ++ V2 ++ Q) (by simpa using this) w3
        | false =>
          refine Ev.step (f := fun k => api_Cmd_40.j7 k (P ++ U1 ++ V1 ++ U2 ++ V2 ++ Q) a b c (P.length + H) (a + s) (P.length + H + m - (a + s))) (fun k => ?_) w3
          rw [api_Cmd_40.j6, if_neg (by simp)]
          rcases hq2 rfl with rfl | rfl <;> simp
      by_cases g : a + s < m
      · refine Ev.congr (fun k => by rw [if_pos g]) (turned _ (fun h => ?_) (fun h => ?_))
        · have := of_decide_eq_true h; omega
        · have := of_decide_eq_false h; exact Or.inr (List.length_eq_zero_iff.1 (by omega))
      · refine Ev.congr (fun k => by rw [if_neg g]) (turned _ (fun h => by cases h) (fun h => ?_))
        exact Or.inl (List.length_eq_zero_iff.1 (by omega))
theorem merge_ev (P U V Q : List S32) (a m b c : Int) (hu0 : 0 < U.length) (hv0 : 0 < V.length) (ha : a = P.length) (hm : m = P.length + U.length) (hb : b = P.length + U.length + V.length)
    (hl : P.length + U.length + V.length < 500000) (hk : kb (U ++ V)) (hu : srt U) (hv : srt V) : MergeGoal P U V Q a m b c :=
  merge_main c _ P U V Q a m b (Nat.le_refl _) hu0 hv0 ha hm hb hl hk hu hv
/-! blocks -/
inductive Blk (s : Nat) : List S32 → Prop
  | last (l : List S32) (h : l.length ≤ s) (hs : srt l) : Blk s l
  | more (B r : List S32) (h : B.length = s) (hs : srt B) (hr : Blk s r) : Blk s (B ++ r)
theorem Blk.small {s : Nat} {l : List S32} (h : Blk s l) (hl : l.length ≤ s) : srt l := by
  cases h with
  | last _ _ hs => exact hs
  | more B r h hs hr =>
    have : r = [] := List.length_eq_zero_iff.1 (by simp at hl; omega)
    subst this; simpa using hs
theorem Blk.great {s : Nat} {l : List S32} (h : Blk s l) (hl : s < l.length) : ∃ B r, l = B ++ r ∧ B.length = s ∧ srt B ∧ Blk s r := by
  cases h with
  | last _ h _ => omega
  | more B r h hs hr => exact ⟨B, r, rfl, h, hs, hr⟩
theorem first_pass (n c : Int) : ∀ (z : Nat) (P R : List S32) (a b : Int), R.length ≤ z → a = P.length → b = P.length + 20 → n = P.length + R.length → P.length + R.length < 400000 → kb R →
    ∃ R', R'.Perm R ∧ Blk 20 R' ∧ ∀ r, Ev (fun k => api_Cmd_34.l1 k (P ++ R') n c 20) r → Ev (fun k => api_Cmd_34.l0 k (P ++ R) n c 20 a b) r := by
  intro z
  induction z with
  | zero =>
    intro P R a b hz ha hb hn hl hk
    obtain rfl := List.length_eq_zero_iff.1 (Nat.le_zero.1 hz)
    obtain ⟨M, p1, p2, p3⟩ := insertion_ev P [] [] a n c ha (by simpa using hn) (by omega) (by simpa using hk)
    obtain rfl := List.Perm.eq_nil p1
    refine ⟨[], List.Perm.refl _, Blk.last _ (by simp) p2, fun r hr => ?_⟩
    refine Ev.step (f := fun k => (api_Cmd_39.f k (P ++ []) a n c).bind fun t184 => (api_Cmd_34.l1 k t184 n c 20)) (fun k => by rw [api_Cmd_34.l0, if_neg (by simp at hn; omega)]) ?_
    exact Ev.bind (by simpa using p3) hr
  | succ z ih =>
    intro P R a b hz ha hb hn hl hk
    by_cases g : b ≤ n
    · have lt : (R.take 20).length = 20 := by simp; omega
      obtain ⟨M, p1, p2, p3⟩ := insertion_ev P (R.take 20) (R.drop 20) a b c ha (by omega) (by omega) (fun x hx => hk x (List.mem_of_mem_take hx))
      have lm : M.length = 20 := by rw [p1.length_eq, lt]
      obtain ⟨R', q1, q2, q3⟩ := ih (P ++ M) (R.drop 20) b (b + 20) (by simp; omega) (by simp; omega) (by simp; omega) (by simp; omega) (by simp; omega) (fun x hx => hk x (List.mem_of_mem_drop hx))
      refine ⟨M ++ R', ?_, Blk.more _ _ lm p2 q2, fun r hr => ?_⟩
      · have := p1.append q1; rwa [List.take_append_drop] at this
      · refine Ev.step (f := fun k => (api_Cmd_39.f k (P ++ R) a b c).bind fun t183 => (api_Cmd_34.l0 k t183 n c 20 b (b + 20))) (fun k => by rw [api_Cmd_34.l0, if_pos g, wrap_small (by omega) (by omega)]) ?_
        refine Ev.bind (a := P ++ M ++ R.drop 20) ?_ (q3 r (by simpa using hr))
        have e : P ++ R = P ++ R.take 20 ++ R.drop 20 := by rw [List.append_assoc, List.take_append_drop]
        rw [e]; exact p3
    · obtain ⟨M, p1, p2, p3⟩ := insertion_ev P R [] a n c ha (by omega) (by omega) hk
      refine ⟨M, p1, Blk.last _ (by rw [p1.length_eq]; omega) p2, fun r hr => ?_⟩
      refine Ev.step (f := fun k => (api_Cmd_39.f k (P ++ R) a n c).bind fun t184 => (api_Cmd_34.l1 k t184 n c 20)) (fun k => by rw [api_Cmd_34.l0, if_neg g]) ?_
      exact Ev.bind (by simpa using p3) hr
theorem merge_pass (n c : Int) (s : Nat) (hs0 : 0 < s) (hs1 : s < 400000) : ∀ (z : Nat) (P R : List S32) (a b : Int), R.length ≤ z → a = P.length → b = P.length + 2 * s → n = P.length + R.length → P.length + R.length < 400000 → kb R → Blk s R →
    ∃ R', R'.Perm R ∧ Blk (2 * s) R' ∧ ∀ r, Ev (fun k => api_Cmd_34.l1 k (P ++ R') n c (2 * s : Nat)) r → Ev (fun k => api_Cmd_34.l2 k (P ++ R) n c s a b) r := by
  intro z
  induction z with
  | zero =>
    intro P R a b hz ha hb hn hl hk hB
    obtain rfl := List.length_eq_zero_iff.1 (Nat.le_zero.1 hz)
    refine ⟨[], List.Perm.refl _, Blk.last _ (by simp) List.Pairwise.nil, fun r hr => Ev.step (fun k => ?_) hr⟩
    simp only [List.length_nil] at hn
    rw [api_Cmd_34.l2, if_neg (by omega), wrap_small (x := a + s) (by omega) (by omega), if_neg (by omega), wrap_small (by omega) (by omega)]
    congr 1; omega
  | succ z ih =>
    intro P R a b hz ha hb hn hl hk hB
    by_cases g0 : s < R.length
    · obtain ⟨B, R1, rfl, lB, sB, hR1⟩ := hB.great g0
      simp only [List.length_append] at hz hn hl g0
      by_cases g : b ≤ n
      · obtain ⟨C, R2, rfl, lC, sC, hR2⟩ : ∃ C R2, R1 = C ++ R2 ∧ C.length = s ∧ srt C ∧ Blk s R2 := by
          by_cases g1 : s < R1.length
          · exact hR1.great g1
          · exact ⟨R1, [], by simp, by omega, hR1.small (by omega), Blk.last _ (by simp) List.Pairwise.nil⟩
        simp only [List.length_append] at hz hn hl g0
        obtain ⟨W, p1, p2, p3⟩ := merge_ev P B C R2 a (a + s) b c (by omega) (by omega) ha (by omega) (by omega) (by omega) (fun x hx => hk x (by simp at hx ⊢; grind)) sB sC
        have lW : W.length = 2 * s := by rw [p1.length_eq]; simp; omega
        obtain ⟨R', q1, q2, q3⟩ := ih (P ++ W) R2 b (b + 2 * s) (by omega) (by simp; omega) (by simp; omega) (by simp; omega) (by simp; omega) (fun x hx => hk x (by simp; grind)) hR2
        refine ⟨W ++ R', ?_, Blk.more _ _ lW p2 q2, fun r hr => ?_⟩
        · have := p1.append q1; simpa using this
        · refine Ev.step (f := fun k => (api_Cmd_40.f k (P ++ (B ++ (C ++ R2))) a (a + s) b c).bind fun t185 => (api_Cmd_34.l2 k t185 n c s b (b + 2 * s))) (fun k => by rw [api_Cmd_34.l2, if_pos g, wrap_small (x := a + s) (by omega) (by omega), wrap_small (x := 2 * (s : Int)) (by omega) (by omega), wrap_small (by omega) (by omega)]) ?_
          exact Ev.bind (a := P ++ W ++ R2) (by simpa using p3) (q3 r (by simpa using hr))
      · obtain ⟨W, p1, p2, p3⟩ := merge_ev P B R1 [] a (a + s) n c (by omega) (by omega) ha (by omega) (by omega) (by omega) hk sB (hR1.small (by omega))
        refine ⟨W, p1, Blk.last _ (by rw [p1.length_eq]; simp; omega) p2, fun r hr => ?_⟩
        refine Ev.step (f := fun k => (api_Cmd_40.f k (P ++ (B ++ R1)) a (a + s) n c).bind fun t186 => (api_Cmd_34.l1 k t186 n c (2 * s : Nat))) (fun k => ?_) ?_
        · rw [api_Cmd_34.l2, if_neg g, wrap_small (x := a + s) (by omega) (by omega), if_pos (by omega), wrap_small (x := (s : Int) * 2) (by omega) (by omega), show (s : Int) * 2 = (2 * s : Nat) by omega]
        · exact Ev.bind (a := P ++ W) (by simpa using p3) hr
    · refine ⟨R, List.Perm.refl _, Blk.last _ (by omega) (hB.small (by omega)), fun r hr => Ev.step (fun k => ?_) hr⟩
      rw [api_Cmd_34.l2, if_neg (by omega), wrap_small (x := a + s) (by omega) (by omega), if_neg (by omega), wrap_small (by omega) (by omega)]
      congr 1; omega
theorem merge_all (n c : Int) : ∀ (z s : Nat) (R : List S32), n - s ≤ z → 0 < s → n = R.length → R.length < 100000 → s < 200000 → kb R → Blk s R →
    ∃ R', R'.Perm R ∧ srt R' ∧ Ev (fun k => api_Cmd_34.l1 k R n c s) R' := by
  intro z
  induction z with
  | zero =>
    intro s R hz hs hn hl hs1 hk hB
    refine ⟨R, List.Perm.refl _, hB.small (by omega), Ev.step (f := fun _ => some R) (fun k => by rw [api_Cmd_34.l1, if_neg (by omega)]) (Ev.now _)⟩
  | succ z ih =>
    intro s R hz hs hn hl hs1 hk hB
    by_cases g : (s : Int) < n
    · obtain ⟨R', p1, p2, p3⟩ := merge_pass n c s hs (by omega) R.length [] R 0 (2 * s) (Nat.le_refl _) rfl (by simp) (by simpa using hn) (by simp; omega) hk hB
      obtain ⟨R2, q1, q2, q3⟩ := ih (2 * s) R' (by omega) (by omega) (by rw [p1.length_eq]; exact hn) (by rw [p1.length_eq]; exact hl) (by omega) (kb_perm p1 hk) p2
      refine ⟨R2, q1.trans p1, q2, Ev.step (fun k => ?_) (p3 R2 (by simpa using q3))⟩
      rw [api_Cmd_34.l1, if_pos g, wrap_small (x := 2 * (s : Int)) (by omega) (by omega)]; simp
    · refine ⟨R, List.Perm.refl _, hB.small (by omega), Ev.step (f := fun _ => some R) (fun k => by rw [api_Cmd_34.l1, if_neg g]) (Ev.now _)⟩
theorem sort_ev (L : List S32) (c : Int) (hl : L.length < 100000) (hk : kb L) : ∃ L', L'.Perm L ∧ srt L' ∧ Ev (fun k => api_Cmd_25.f k L c) L' := by
  obtain ⟨R, p1, p2, p3⟩ := first_pass L.length c L.length [] L 0 20 (Nat.le_refl _) rfl rfl (by simp) (by simp; omega) hk
  obtain ⟨R2, q1, q2, q3⟩ := merge_all L.length c L.length 20 R (by omega) (by omega) (by rw [p1.length_eq]) (by rw [p1.length_eq]; exact hl) (by omega) (kb_perm p1 hk) p2
  refine ⟨R2, q1.trans p1, q2, ?_⟩
  refine Ev.bind (f := fun _ t => some t) ?_ (Ev.now _)
  exact p3 R2 q3
end Go.Proofs.Ytmlgklklikgafaa.PPredsTells
