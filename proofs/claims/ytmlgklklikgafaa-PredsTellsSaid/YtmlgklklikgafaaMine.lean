/- Words of this session, beside the print's own: a call of a function value; a scope with a goto, by rounds. -/
import Derived.Test.YtmlgklklikgafaaWMore
import Derived.Test.YtmlgklklikgafaaWLast
import Derived.Scope
import Derived.ScopeJumps
import Derived.Shelf.RegionOpenPlain
import Derived.WalkMore
namespace Go.Proofs.YtmlgklklikgafaaW.PrintWords
open Go.RowKit Go.Proofs.YtmlgklklikgafaaW.PrintLast
set_option linter.unusedVariables false
section
variable {P : Program} {ops : Array Oper} {Q : Exit → Act → World → Prop}
theorem goesCL_ {rest : List Oper} {oi : Oper} {a : Act} {w : World} (N : Option Tmp) {f : FuncId} {fn : Func} {cb : Array Value} {t : Tmp} {as_ : Array Operand} {ts : Array TypeId} (ht : a.eval (.tmp t) = .func (.func f) #[] cb) (hd : oi.dst = N) (hg : oi.guard = none) (hf : P.funcs[f]? = some fn) (hname : (fn.name == "runtime.NumGoroutine") = false) (hb : fn.body.isSome = true) (args : Array Value)
    (hop : oi.op = .call { callee := .value (.tmp t), args := as_, argTypes := ts }) (hargs : as_.map a.eval = args)
    (h : Calls P f (args ++ cb) w fun e w' => ∃ v, e = .returned v ∧ wpList P ops Q rest (a.put N v) w') : wpList P ops Q (oi :: rest) a w := by
  refine wpList_plain hg fun K hK => ?_
  have he := enters_ hf hname hb (args ++ cb) w
  have hrun : (execOp a.eval oi).run P w = .ok (.enter f (args ++ cb)) w := by
    unfold execOp
    simp [hop, ht, resolve, Deferred.ofValue, invoke, hargs, he]
  unfold Oper.wp
  rw [hrun, Oper.upon_enter]
  refine h.mono fun e w'' hh => ?_
  obtain ⟨v, rfl, hk⟩ := hh
  subst hd
  exact hK _ _ hk
end
/-! Two elements of a row of one's own change places: the loads, the runs of stores, and the row behind them. -/
theorem loads_list_ (P : Program) (W : World) (a : Addr) (cs : List Value) (k : Nat) (hk : cs.length = k) (h : ∀ j v, cs[j]? = some v → W.cell? (a.add j) = some v) : Sem.run P (loadCellsFrom a 0 k #[]) W = .ok cs.toArray W := by
  have := run_loadCells_list (P := P) W a cs h
  rw [hk] at this
  simpa [loadCells] using this
theorem stores_list_ (P : Program) (W : World) (g o : Nat) (c vs : List Value) (hl : c.length = vs.length) (h : ∀ j u, c[j]? = some u → W.cell? ⟨g, o + j, none⟩ = some u) (hf : ∀ j, W.frozen? ⟨g, o + j, none⟩ = false) (h1 : ∀ v ∈ vs, v.oneCell' = true) : Sem.run P (storeCells ⟨g, o, none⟩ vs 0) W = .ok () (W.setCells g o vs) := by
  have := run_storeCells_cells (P := P) g o vs 0 W (fun j hj => by
    have hj' : j < c.length := by omega
    rw [Nat.add_zero, h j _ (List.getElem?_eq_getElem hj')]; rfl) (fun j hj => by rw [Nat.add_zero]; exact hf j) h1
  rwa [Nat.add_zero] at this
namespace Kd
theorem R_swap {α : Type} {d : Kd α} {e base g n cap : Nat} {ok : Nat → Prop} {W : World} {xs : List α} (h : d.R e W base ok (.slice (some ⟨g, 0, none⟩) n cap) xs) (z : α) (i j : Int) (hi0 : 0 ≤ i) (hi1 : i < n) (hj0 : 0 ≤ j) (hj1 : j < n) :
    ∃ ci cj : List Value, ci.length = d.sz ∧ cj.length = d.sz ∧ (∀ P, Sem.run P (loadCellsFrom ⟨g, i.toNat * d.sz, none⟩ 0 d.sz #[]) W = .ok ci.toArray W) ∧ (∀ P, Sem.run P (loadCellsFrom ⟨g, j.toNat * d.sz, none⟩ 0 d.sz #[]) W = .ok cj.toArray W)
      ∧ (∀ P, Sem.run P (storeCells ⟨g, i.toNat * d.sz, none⟩ cj 0) W = .ok () (W.setCells g (i.toNat * d.sz) cj))
      ∧ (∀ P, Sem.run P (storeCells ⟨g, j.toNat * d.sz, none⟩ ci 0) (W.setCells g (i.toNat * d.sz) cj) = .ok () ((W.setCells g (i.toNat * d.sz) cj).setCells g (j.toNat * d.sz) ci))
      ∧ d.R e ((W.setCells g (i.toNat * d.sz) cj).setCells g (j.toNat * d.sz) ci) base ok (.slice (some ⟨g, 0, none⟩) n cap) ((xs.set i.toNat (xs.getD j.toNat z)).set j.toNat (xs.getD i.toNat z))
      ∧ W.grownBy ((W.setCells g (i.toNat * d.sz) cj).setCells g (j.toNat * d.sz) ci) (some g) := by
  obtain ⟨ci, hil, hiM, hic, hif⟩ := R_elem h z i hi0 hi1
  obtain ⟨cj, hjl, hjM, hjc, hjf⟩ := R_elem h z j hj0 hj1
  have e1 : ci.take 0 ++ cj ++ ci.drop (0 + cj.length) = cj := by
    rw [List.take_zero, List.nil_append, Nat.zero_add, List.drop_of_length_le (by omega), List.append_nil]
  obtain ⟨h1, g1⟩ := R_seg (seg := cj) (j := 0) (x' := xs.getD j.toNat z) (okp := fun k => ok k ∧ k ≠ g) h i hi0 hi1 hil hic (by omega) (by rw [e1]; exact hjM) (fun k hk => hk)
  obtain ⟨cj', hjl', hjM', hjc', hjf'⟩ := R_elem h1 z j hj0 hj1
  have e2 : cj'.take 0 ++ ci ++ cj'.drop (0 + ci.length) = ci := by
    rw [List.take_zero, List.nil_append, Nat.zero_add, List.drop_of_length_le (by omega), List.append_nil]
  obtain ⟨h2, g2⟩ := R_seg (seg := ci) (j := 0) (x' := xs.getD i.toNat z) (okp := fun k => ok k ∧ k ≠ g) h1 j hj0 hj1 hjl' hjc' (by omega) (by rw [e2]; exact d.M_move (fun k hk => setCells_far _ _ k hk.2) hiM) (fun k hk => hk)
  refine ⟨ci, cj, hil, hjl, fun P => loads_list_ P W _ ci _ hil (fun c v hv => by have h9 := hic c v hv; first | exact h9 | (rw [Addr.add_lit]; exact h9)), fun P => loads_list_ P W _ cj _ hjl (fun c v hv => by have h9 := hjc c v hv; first | exact h9 | (rw [Addr.add_lit]; exact h9)), fun P => stores_list_ P W g _ ci cj (by omega) hic hif (d.K_one (d.K_of_M hjM)), fun P => stores_list_ P _ g _ cj' ci (by omega) hjc' hjf' (d.K_one (d.K_of_M hiM)), h2, g1.trans g2⟩
end Kd
/-! A region that draws its order, whose operations only read, and whose callees turn nothing that was there: walked once. -/
structure Past (w : World) where
  now : World
  le : Below w.heap.size w now
instance (w : World) : Inhabited (Past w) := ⟨⟨w, Below.refl _ _⟩⟩
theorem wp_region_past {P : Program} {id : Nat} {Q : Exit → Act → World → Prop} {a : Act} {w : World} {l : List Oper} (hm : P.follows .mixedOrders = true) (hB : Region.lexB .any l.toArray = true)
    (h : wpQuiet P l.toArray (fun w' => ∃ p : Past w.drew, w' = p.now) (fun a' => ∀ w', (∃ p : Past w.drew, w' = p.now) → Q .normal a' w') l a) : (Code.region id l.toArray true).wp P Q a w :=
  wp_region_quiet (C := fun w' => ∃ p : Past w.drew, w' = p.now) hm hB ⟨⟨w.drew, Below.refl _ _⟩, rfl⟩ (by simpa using h)
theorem Kd.C_loads {α : Type} {d : Kd α} {w : World} {ad : Addr} {n : Nat} {xs : List α} (h : d.C w (some ad) n xs) (z : α) (i : Int) (h0 : 0 ≤ i) (h1 : i < n) :
    ∃ c : List Value, d.K w (xs.getD i.toNat z) c ∧ ∀ (P : Program) (p : Past w), Sem.run P (loadCellsFrom (ad.add (i.toNat * d.sz)) 0 d.sz #[]) p.now = .ok c.toArray p.now := by
  obtain ⟨ad', c, e, hl, hK, hc⟩ := Kd.C_get h z i h0 h1
  cases e
  exact ⟨c, hK, fun P p => loads_list_ P _ _ c _ (d.K_len hK) (fun j v hv => by have h9 := (p.le.cell (World.block_lt_of_cell? w _ (hc j v hv))).trans (hc j v hv); (rw [add_add]; exact h9))⟩
end Go.Proofs.YtmlgklklikgafaaW.PrintWords
