/- How a law's arguments of any kind (numbers, texts, structs, slices of these) are opened for a printed contract: words of this session, proved once for all types. -/
import Derived.Test.YtmlgklklikgafaaWN
import Derived.Test.YtmlgklklikgafaaWSized
import Derived.WalkKit
import Derived.ProofKit
import Derived.OpenShut
import Derived.Deep.Slices
import Derived.WideShapes
import Derived.ChangeArms
namespace Go.Proofs.YtmlgklklikgafaaW.RowKd
open Go.RowKit Go.Proofs.YtmlgklklikgafaaW.PrintWords Go.ChangeShapes
set_option linter.unusedVariables false
variable {P : Program} {α β : Type}

/-- What reads as type t stands as the kind tells. -/
def Opens (P : Program) (t : TypeId) (d : Kd α) (good : α → Prop) : Prop :=
  P.cellsOf t = d.sz ∧ ∀ {H : Type} (enc : TypeId × Value → H) (w : World) (spare : Nat → Bool) (held : Bool) (fuel : Nat) (cs : List Value) (x : DataW H × List MemPlace),
    DataW.trod enc P w 0 spare held fuel t cs = some x → ∃ v, d.K w v cs ∧ good v

theorem opens_int {t : TypeId} {k : IntKind} (ht : P.underlying t = some (.int k)) (hc : P.cellsOf t = 1) : Opens P t (Kd.int k) (fun n => (Lit.int k n).wf = true) := by
  refine ⟨hc, fun enc w spare held fuel cs x h => ?_⟩
  obtain ⟨n, rfl, _, hw⟩ := DataW.trod_int ht h
  exact ⟨n, rfl, hw⟩
theorem add_add (a : Addr) (m n : Nat) : (a.add m).add n = a.add (m + n) := by
  unfold Addr.add
  by_cases h1 : m = 0
  · subst h1; simp
  · by_cases h2 : n = 0
    · subst h2; simp
    · simp [h1, h2, Nat.add_assoc]
theorem cells_at {w : World} {a : Addr} {n : Nat} {cs : List Value} (h : w.cells? 0 a n = some cs) : cs.length = n ∧ ∀ i u, cs[i]? = some u → w.cell? (a.add i) = some u := by
  unfold World.cells? at h
  rw [if_pos (Nat.zero_le _)] at h
  induction n generalizing cs with
  | zero => simp at h; subst h; simp
  | succ n ih =>
    rw [List.range_succ, List.mapM_append] at h
    simp only [Option.bind_eq_bind, Option.bind_eq_some_iff, List.mapM_cons, List.mapM_nil, Option.pure_def, Option.some.injEq] at h
    obtain ⟨c0, h0, c1, ⟨u, hu, c2, rfl, rfl⟩, rfl⟩ := h
    obtain ⟨hl, hg⟩ := ih h0
    refine ⟨by simp [hl], fun i v hv => ?_⟩
    rcases Nat.lt_or_ge i c0.length with hi | hi
    · rw [List.getElem?_append_left hi] at hv
      exact hg i v hv
    · rw [List.getElem?_append_right hi] at hv
      have hi2 : i = n := by
        have := (List.getElem?_eq_some_iff.1 hv).1
        simp at this; omega
      subst hi2
      rw [hl, Nat.sub_self] at hv
      simp at hv
      subst hv
      exact hu
theorem opens_slice {t e : TypeId} {d : Kd α} {g : α → Prop} (ht : P.underlying t = some (.slice e)) (hc : P.cellsOf t = 1) (he : Opens P e d g) :
    Opens P t (Kd.slice e d) (fun xs => xs.length ≤ maxLen ∧ ∀ x ∈ xs, g x) := by
  refine ⟨hc, fun {H} enc w spare held fuel cs x h => ?_⟩
  rcases Deep.open_slice ht h with ⟨rfl, _⟩ | ⟨a, len, cap, m, n, D, Pl, rfl, _, hl, hm, hmm, _, hel⟩
  · exact ⟨[], ⟨none, 0, rfl, Nat.le_refl _, rfl, by simp, fun h0 => absurd h0 (Nat.lt_irrefl 0)⟩, by simp, by simp⟩
  · have hlm : len ≤ m := by rw [hmm]; split <;> omega
    have hex : ∀ i : Nat, ∃ v : Option α, i < len → ∃ v', v = some v' ∧ g v' ∧ ∃ cs', w.cells? 0 (a.add (i * P.cellsOf e)) (P.cellsOf e) = some cs' ∧ d.K w v' cs' := by
      intro i
      by_cases hi : i < len
      · obtain ⟨cs', h1, h2⟩ := hel i (by omega)
        obtain ⟨v, hK, hg⟩ := he.2 enc w spare held n cs' _ h2
        exact ⟨some v, fun _ => ⟨v, rfl, hg, cs', h1, hK⟩⟩
      · exact ⟨none, fun h => absurd h hi⟩
    obtain ⟨f, hf⟩ := Classical.axiomOfChoice hex
    have hlen : ∀ k, k ≤ len → ((List.range k).filterMap f).length = k := by
      intro k
      induction k with
      | zero => intro _; rfl
      | succ k ih =>
        intro hk
        obtain ⟨v, hv, _⟩ := hf k (by omega)
        rw [List.range_succ, List.filterMap_append, List.length_append, ih (by omega)]
        simp [hv]
    have hget : ∀ k, k ≤ len → ∀ i v, ((List.range k).filterMap f)[i]? = some v → f i = some v := by
      intro k
      induction k with
      | zero => intro _ i v h; simp at h
      | succ k ih =>
        intro hk i v h
        obtain ⟨u, hu, _⟩ := hf k (by omega)
        rw [List.range_succ, List.filterMap_append] at h
        rcases Nat.lt_or_ge i k with hi | hi
        · rw [List.getElem?_append_left (by rw [hlen k (by omega)]; exact hi)] at h
          exact ih (by omega) i v h
        · rw [List.getElem?_append_right (by rw [hlen k (by omega)]; exact hi), hlen k (by omega)] at h
          have hik : i = k := by
            have := (List.getElem?_eq_some_iff.1 h).1
            simp [hu] at this; omega
          subst hik
          simp [hu] at h
          rw [hu, h]
    refine ⟨(List.range len).filterMap f, ⟨some a, cap, by rw [hlen len (Nat.le_refl _)], by rw [hlen len (Nat.le_refl _)]; exact hl, rfl, ?_, fun _ => ⟨a, rfl, fun j p hj => ?_⟩⟩, ?_, fun x hx => ?_⟩
    · rw [hlen len (Nat.le_refl _)]; unfold maxLen at hm; omega
    · have hjl : j < len := by have := (List.getElem?_eq_some_iff.1 hj).1; rw [hlen len (Nat.le_refl _)] at this; exact this
      obtain ⟨v, hv, _, cs', h1, hK⟩ := hf j hjl
      have : v = p := by have := hget len (Nat.le_refl _) j p hj; rw [hv] at this; exact Option.some.inj this
      subst this
      obtain ⟨hl1, hg1⟩ := cells_at h1
      refine ⟨cs', by rw [hl1, he.1], hK, fun i u hu => ?_⟩
      have := hg1 i u hu
      rw [add_add] at this
      rw [← he.1]; exact this
    · rw [hlen len (Nat.le_refl _)]; exact Nat.le_trans hl hm
    · obtain ⟨i, hi, rfl⟩ := List.getElem_of_mem hx
      have hjl : i < len := by rw [hlen len (Nat.le_refl _)] at hi; exact hi
      obtain ⟨v, hv, hg, _⟩ := hf i hjl
      have h2 := hget len (Nat.le_refl _) i _ (List.getElem?_eq_getElem hi)
      rw [hv] at h2
      rw [← Option.some.inj h2]; exact hg

/-- The fields of a struct from a place on. -/
def OpensF (P : Program) (fs : List Field) (off : Nat) (d : Kd α) (good : α → Prop) : Prop :=
  ∀ (H : Type) (enc : TypeId × Value → H) (w : World) (spare : Nat → Bool) (held : Bool) (n : Nat) (cs : List Value), off + d.sz ≤ cs.length →
    (∀ f ∈ fs, ∃ x, DataW.trod enc P w 0 spare held n f.type ((cs.drop f.offset).take (P.cellsOf f.type)) = some x) → ∃ v, d.K w v ((cs.drop off).take d.sz) ∧ good v
theorem opensF_one {f : Field} {off : Nat} {d : Kd α} {g : α → Prop} (ho : f.offset = off) (h : Opens P f.type d g) : OpensF P [f] off d g := by
  intro H enc w spare held n cs _ hx
  obtain ⟨x, hx⟩ := hx f (by simp)
  rw [h.1, ho] at hx
  exact h.2 enc w spare held n _ x hx
theorem opensF_cons {f : Field} {fs : List Field} {off : Nat} {d : Kd α} {ds : Kd β} {g : α → Prop} {gs : β → Prop} (ho : f.offset = off) (h : Opens P f.type d g) (hs : OpensF P fs (off + d.sz) ds gs) :
    OpensF P (f :: fs) off (Kd.pair d ds) (fun p => g p.1 ∧ gs p.2) := by
  intro H enc w spare held n cs hl hx
  have hl2 : off + (d.sz + ds.sz) ≤ cs.length := hl
  obtain ⟨x, hx0⟩ := hx f (by simp)
  rw [h.1, ho] at hx0
  obtain ⟨v, hv, hg⟩ := h.2 enc w spare held n _ x hx0
  obtain ⟨u, hu, hgu⟩ := hs H enc w spare held n cs (by omega) (fun f' hf' => hx f' (by simp [hf']))
  refine ⟨(v, u), ⟨_, _, ?_, hv, hu⟩, hg, hgu⟩
  show (cs.drop off).take (d.sz + ds.sz) = _
  rw [List.take_add, List.drop_drop]
theorem opens_struct {t : TypeId} {fs : Array Field} {d : Kd α} {g : α → Prop} {proj : β → α} (ht : P.underlying t = some (.struct fs)) (hc : P.cellsOf t = d.sz) (mk : α → β) (hmk : ∀ p, proj (mk p) = p)
    (h : OpensF P fs.toList 0 d g) : Opens P t (Kd.iso d proj) (fun x => g (proj x)) := by
  refine ⟨hc, fun enc w spare held fuel cs x hx => ?_⟩
  obtain ⟨xs, n, _, _, hl, hlen, hf⟩ := DataW.trod_struct ht hx
  obtain ⟨v, hv, hg⟩ := h _ enc w spare held n cs (by omega) (fun f hf' => by
    obtain ⟨i, hi, rfl⟩ := List.getElem_of_mem hf'
    have hi' : i < fs.size := by simpa using hi
    refine ⟨xs[i]'(by omega), ?_⟩
    have := hf i fs[i] (by simp [hi'])
    rw [List.getElem?_eq_getElem (by omega)] at this
    simpa using this)
  refine ⟨mk v, ?_, by show g (proj (mk v)); rw [hmk]; exact hg⟩
  show d.K w (proj (mk v)) cs
  rw [hmk]
  rw [List.drop_zero, ← hc, ← hl, List.take_length] at hv
  exact hv
theorem opens_imp {t : TypeId} {d : Kd α} {g g' : α → Prop} (h : Opens P t d g) (hg : ∀ x, g x → g' x) : Opens P t d g' := ⟨h.1, fun enc w spare held fuel cs x hx => by
  obtain ⟨v, hv, hgv⟩ := h.2 enc w spare held fuel cs x hx
  exact ⟨v, hv, hg v hgv⟩⟩
theorem slice_arg {t e : TypeId} {d : Kd α} {g : List α → Prop} {H : Type} {enc : TypeId × Value → H} {w : World} {spare : Nat → Bool} {held : Bool} {a : Option Addr} {len cap : Nat} {x : DataW H} {p : List MemPlace}
    (ho : Opens P t (Kd.slice e d) g) (h : DataW.Trod enc P w 0 spare held t (.slice a len cap) x p) : ∃ l : List α, len = l.length ∧ l.length ≤ cap ∧ d.C w a l.length l ∧ g l := by
  obtain ⟨fuel, h⟩ := h
  obtain ⟨l, ⟨A, c, hcs, hl, hC⟩, hg⟩ := ho.2 enc w spare held fuel _ _ h
  simp [Value.cells] at hcs
  obtain ⟨rfl, rfl, rfl⟩ := hcs
  exact ⟨l, rfl, hl, hC, hg⟩
end Go.Proofs.YtmlgklklikgafaaW.RowKd
