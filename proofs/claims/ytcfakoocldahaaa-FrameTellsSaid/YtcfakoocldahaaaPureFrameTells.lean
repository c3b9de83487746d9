/- The sum, and the frame, of any bytes, and what is in the frames of any log, are as the document's reference says: the plain law of FrameTells. Conditions: none beyond the given statement's. -/
import Derived.Test.YtcfakoocldahaaaPFrameTellsx5
import Derived.Laws.BitsAllLaws
namespace Go.Proofs.Ytcfakoocldahaaa.Pure
open Go.RowKit Go.Proofs.Ytcfakoocldahaaa.PFrameTells Go.Proofs.YtcfakoocldahaaaW.PrintWords Go.Proofs.YtcfakoocldahaaaW.PrintLast
set_option linter.unusedVariables false
set_option linter.unusedSimpArgs false

/-! ### registers of 32 bits -/
abbrev W32 := BitVec 32
def dv : W32 := 0xedb88320#32
def sh (r : W32) (m : Bool) : W32 := (r >>> 1) ^^^ (if (r.getLsbD 0 ^^ m) then dv else 0#32)
def bitsOf (x : Nat) : List Bool := (List.range 8).map x.testBit
def crc (r : W32) (ms : List Bool) : W32 := ms.foldl sh r
def msgBits (l : List Int) : List Bool := l.flatMap fun x => bitsOf x.toNat
def sumB (l : List Int) : W32 := ~~~ crc (BitVec.allOnes 32) (msgBits l)

theorem sh_xor (s y : W32) : sh (s ^^^ y) false = sh s (y.getLsbD 0) ^^^ (y >>> 1) := by
  unfold sh
  simp only [BitVec.getLsbD_xor, Bool.bne_false, BitVec.ushiftRight_xor_distrib]
  rw [BitVec.xor_assoc, BitVec.xor_assoc, BitVec.xor_comm (y >>> 1)]
def its : Nat → W32 → W32
  | 0, r => r
  | t + 1, r => its t (sh r false)
/-- Shifts of a register into which a number was put, are steps of that number's bits. -/
theorem shifts (t : Nat) : ∀ (s : W32) (y : Nat), y < 2 ^ 32 →
    its t (s ^^^ BitVec.ofNat 32 y) = crc s ((List.range t).map y.testBit) ^^^ BitVec.ofNat 32 (y >>> t) := by
  induction t with
  | zero => intro s y _; simp [its, crc]
  | succ t ih =>
    intro s y hy
    have h0 : (BitVec.ofNat 32 y).getLsbD 0 = y.testBit 0 := by rw [BitVec.getLsbD_ofNat]; simp
    have h1 : BitVec.ofNat 32 y >>> 1 = BitVec.ofNat 32 (y >>> 1) := by
      apply BitVec.eq_of_toNat_eq
      rw [BitVec.toNat_ushiftRight, BitVec.toNat_ofNat, BitVec.toNat_ofNat, Nat.mod_eq_of_lt hy, Nat.mod_eq_of_lt (Nat.lt_of_le_of_lt (Nat.shiftRight_le _ _) hy)]
    rw [its, sh_xor, h0, h1, ih _ _ (Nat.lt_of_le_of_lt (Nat.shiftRight_le _ _) hy), ← Nat.shiftRight_add, Nat.add_comm 1 t, List.range_succ_eq_map]
    simp only [List.map_cons, List.map_map, crc, List.foldl_cons]
    congr 3
    funext i
    simp [Nat.testBit_shiftRight, Nat.add_comm]
theorem byte_step (s : W32) (x : Nat) (hx : x < 256) : its 8 (s ^^^ BitVec.ofNat 32 x) = crc s (bitsOf x) := by
  rw [shifts 8 s x (by omega), show x >>> 8 = 0 from by rw [Nat.shiftRight_eq_div_pow]; omega]
  simp [bitsOf]

/-! ### the program's sum -/
theorem wrap_plain {i : Int} (h0 : -9223372036854775808 ≤ i) (h1 : i ≤ 9223372036854775807) : wrap64 i = i := by
  unfold wrap64; omega
theorem and_one (s : W32) : ((s.toNat &&& 1 : Nat)) = if s.getLsbD 0 then 1 else 0 := by
  rw [Nat.and_one_is_mod, BitVec.getLsbD, Nat.testBit_zero]
  rcases Nat.mod_two_eq_zero_or_one s.toNat with h | h <;> simp [h]
theorem shift_step (s : W32) : Go.bits .xor .u32 ((s.toNat : Int) / 2) (Go.bits .and .u32 3988292384 ((-(Go.bits .and .u32 (s.toNat : Int) 1)) % 4294967296)) = ((sh s false).toNat : Int) := by
  have hs := s.isLt
  rw [show (1 : Int) = ((1 : Nat) : Int) from rfl, u32_and_nat _ _ hs (by omega), and_one]
  have hd : (s.toNat : Int) / (2 : Int) = ((s >>> 1).toNat : Int) := by
    rw [BitVec.toNat_ushiftRight, Nat.shiftRight_eq_div_pow]; omega
  rw [hd, sh]
  cases h : s.getLsbD 0
  · simp only [Bool.false_eq_true, if_false, Bool.bne_false]
    rw [show ((-((0 : Nat) : Int)) % 4294967296) = ((0 : Nat) : Int) from rfl, show (3988292384 : Int) = ((3988292384 : Nat) : Int) from rfl, u32_and_nat _ _ (by omega) (by omega), u32_xor_nat _ _ (s >>> 1).isLt (by decide)]
    rw [BitVec.toNat_xor]; rfl
  · simp only [if_true, Bool.bne_false]
    rw [show ((-((1 : Nat) : Int)) % 4294967296) = ((4294967295 : Nat) : Int) from rfl, show (3988292384 : Int) = ((3988292384 : Nat) : Int) from rfl, u32_and_nat _ _ (by omega) (by omega), u32_xor_nat _ _ (s >>> 1).isLt (by decide)]
    rw [BitVec.toNat_xor]; rfl
theorem sum_inner (l : List Int) (n : Int) (i : Int) (d : Nat) : ∀ (j : Int) (s : W32) (r : Int), 0 ≤ j → j + d = 8 →
    Ev (fun k => frame_Sum.l0 k ((its d s).toNat : Int) l n (wrap64 (i + 1))) r → Ev (fun k => frame_Sum.l1 k (s.toNat : Int) l n i j) r := by
  induction d with
  | zero =>
    intro j s r h0 h8 h
    refine Ev.step (fun k => ?_) h
    simp only [frame_Sum.l1]; rw [if_neg (by omega)]; rfl
  | succ d ih =>
    intro j s r h0 h8 h
    refine Ev.step (fun k => ?_) (ih (j + 1) (sh s false) r (by omega) (by omega) h)
    simp only [frame_Sum.l1]; rw [if_pos (by omega), shift_step, wrap_plain (by omega) (by omega)]
theorem not_nat (s : W32) : 4294967295 ^^^ s.toNat = (~~~s).toNat := by
  rw [← BitVec.allOnes_xor, BitVec.toNat_xor, BitVec.toNat_allOnes]
theorem rd_at (l : List Int) (i : Nat) (hi : i < l.length) : rd l (i : Int) = l[i] := by simp [rd, List.getD_eq_getElem?_getD, hi]
def Bytes (l : List Int) : Prop := ∀ x ∈ l, 0 ≤ x ∧ x < 256
theorem sum_outer (l : List Int) (hb : Bytes l) (hl : l.length < 281474976710656) (d : Nat) : ∀ (i : Nat) (s : W32), i + d = l.length →
    Ev (fun k => frame_Sum.l0 k (s.toNat : Int) l (l.length : Int) (i : Int)) ((~~~ crc s (msgBits (l.drop i))).toNat : Int) := by
  induction d with
  | zero =>
    intro i s h
    refine Ev.step (f := fun _ => some ((~~~ crc s (msgBits (l.drop i))).toNat : Int)) (fun k => ?_) (Ev.now _)
    simp only [frame_Sum.l0]; rw [if_neg (by omega), List.drop_eq_nil_of_le (by omega)]
    rw [show (4294967295 : Int) = ((4294967295 : Nat) : Int) from rfl, u32_xor_nat _ _ (by omega) s.isLt]
    simp only [msgBits, List.flatMap_nil, crc, List.foldl_nil]
    rw [not_nat]
  | succ d ih =>
    intro i s h
    have hi : i < l.length := by omega
    have hx := hb l[i] (List.getElem_mem hi)
    obtain ⟨x, hxn⟩ : ∃ x : Nat, l[i] = (x : Int) := ⟨l[i].toNat, by omega⟩
    have e1 : Go.bits .xor .u32 (s.toNat : Int) ((rd l (i : Int)) % 4294967296) = ((s ^^^ BitVec.ofNat 32 x).toNat : Int) := by
      rw [rd_at l i hi, hxn, show ((x : Int) % 4294967296) = (x : Int) from by omega, u32_xor_nat _ _ s.isLt (by omega), BitVec.toNat_xor, BitVec.toNat_ofNat, Nat.mod_eq_of_lt (by omega)]
    have e2 : crc s (msgBits (l.drop i)) = crc (its 8 (s ^^^ BitVec.ofNat 32 x)) (msgBits (l.drop (i + 1))) := by
      rw [byte_step s x (by omega), List.drop_eq_getElem_cons hi, msgBits, List.flatMap_cons, crc, List.foldl_append, hxn]; rfl
    have h2 := ih (i + 1) (its 8 (s ^^^ BitVec.ofNat 32 x)) (by omega)
    rw [← e2] at h2
    refine Ev.step (fun k => ?_) (sum_inner l (l.length : Int) (i : Int) 8 0 (s ^^^ BitVec.ofNat 32 x) _ (by omega) (by omega) (by rw [wrap_plain (by omega) (by omega)]; exact h2))
    simp only [frame_Sum.l0]; rw [if_pos (by omega), if_pos (by omega), if_pos (by omega), e1]
theorem sum_is (l : List Int) (hb : Bytes l) (hl : l.length < 281474976710656) : Ev (fun k => frame_Sum.f k l) ((sumB l).toNat : Int) := by
  have h := sum_outer l hb hl l.length 0 (BitVec.allOnes 32) (by omega)
  rw [List.drop_zero] at h
  exact h

/-! ### the reference's sum: long division -/
def b2i (b : Bool) : Int := if b then 1 else 0
theorem b2i_not (b : Bool) : wrap64 (1 - b2i b) = b2i (!b) := by cases b <;> simp [b2i, wrap64]
theorem tmod_bit (x : Nat) : Int.tmod (x : Int) 2 = b2i (x.testBit 0) := by
  rw [Int.tmod_eq_emod_of_nonneg (by omega), b2i, Nat.testBit_zero]
  rcases Nat.mod_two_eq_zero_or_one x with h | h <;> simp [h] <;> omega
theorem tdiv_half (x : Nat) (h : x < 256) : wrap64 (Int.tdiv (x : Int) 2) = ((x / 2 : Nat) : Int) := by
  rw [Int.tdiv_eq_ediv_of_nonneg (by omega), wrap_plain (by omega) (by omega)]; omega
/-- a byte's bits -/
theorem factors_inner (l : List Int) (i : Int) (d : Nat) : ∀ (acc : List Int) (x : Nat) (j : Int) (r : List Int), 0 ≤ j → j + d = 8 → x < 256 → acc.length + d < 17592186044416 →
    Ev (fun k => lictorref07_factors.l0 k l (acc ++ (List.range d).map fun q => b2i (x.testBit q)) (wrap64 (i + 1))) r → Ev (fun k => lictorref07_factors.l1 k l acc i (x : Int) j) r := by
  induction d with
  | zero =>
    intro acc x j r h0 h8 hx ha h
    refine Ev.step (fun k => ?_) h
    simp only [lictorref07_factors.l1]; rw [if_neg (by omega)]; simp
  | succ d ih =>
    intro acc x j r h0 h8 hx ha h
    refine Ev.step (fun k => ?_) (ih (acc ++ [b2i (x.testBit 0)]) (x / 2) (j + 1) r (by omega) (by omega) (by omega) (by simp; omega) ?_)
    · simp only [lictorref07_factors.l1]; rw [if_pos (by omega), if_pos (by omega), tmod_bit, tdiv_half x hx, wrap_plain (by omega) (by omega)]
    · refine Ev.congr (fun k => ?_) h
      rw [List.range_succ_eq_map]
      simp [Nat.testBit_succ, Function.comp_def]
theorem msgBits_cons (x : Int) (l : List Int) : msgBits (x :: l) = bitsOf x.toNat ++ msgBits l := by rw [msgBits, List.flatMap_cons]; rfl
theorem msgBits_length (l : List Int) : (msgBits l).length = 8 * l.length := by
  induction l with
  | nil => rfl
  | cons x l ih => rw [msgBits, List.flatMap_cons, List.length_append, ← msgBits, ih]; simp [bitsOf]; omega
theorem factors_outer (l : List Int) (hb : Bytes l) (hl : l.length < 281474976710) (d : Nat) : ∀ (acc : List Int) (i : Nat) (r : List Int), i + d = l.length → acc.length + 8 * d < 17592186044416 →
    Ev (fun k => lictorref07_factors.l2 k (acc ++ (msgBits (l.drop i)).map b2i) 0) r → Ev (fun k => lictorref07_factors.l0 k l acc (i : Int)) r := by
  induction d with
  | zero =>
    intro acc i r hd ha h
    refine Ev.step (fun k => ?_) h
    simp only [lictorref07_factors.l0]; rw [if_neg (by omega), List.drop_eq_nil_of_le (by omega)]; simp [msgBits]
  | succ d ih =>
    intro acc i r hd ha h
    have hi : i < l.length := by omega
    have hx := hb l[i] (List.getElem_mem hi)
    obtain ⟨x, hxn⟩ : ∃ x : Nat, l[i] = (x : Int) := ⟨l[i].toNat, by omega⟩
    have h2 := ih (acc ++ (List.range 8).map fun q => b2i (x.testBit q)) (i + 1) r (by omega) (by simp; omega) (Ev.congr (fun k => by
      rw [List.drop_eq_getElem_cons hi, msgBits_cons, hxn, List.map_append]
      simp only [bitsOf, List.map_map, List.append_assoc]; rfl) h)
    refine Ev.step (fun k => ?_) (factors_inner l (i : Int) 8 acc x 0 r (by omega) (by omega) (by omega) (by omega) (by rw [wrap_plain (by omega) (by omega)]; exact h2))
    simp only [lictorref07_factors.l0]; rw [if_pos (by omega), if_pos (by omega), rd_at l i hi, hxn, wrap_plain (by omega) (by omega)]
theorem factors_pad (d : Nat) : ∀ (acc : List Int) (j : Int) (r : List Int), 0 ≤ j → j + d = 32 → acc.length + d < 17592186044416 →
    Ev (fun k => lictorref07_factors.l3 k (acc ++ List.replicate d 0) 0) r → Ev (fun k => lictorref07_factors.l2 k acc j) r := by
  induction d with
  | zero =>
    intro acc j r h0 hd ha h
    refine Ev.step (fun k => ?_) h
    simp only [lictorref07_factors.l2]; rw [if_neg (by omega)]; simp
  | succ d ih =>
    intro acc j r h0 hd ha h
    refine Ev.step (fun k => ?_) (ih (acc ++ [0]) (j + 1) r (by omega) (by omega) (by simp; omega) (Ev.congr (fun k => by simp [List.replicate_succ]) h))
    simp only [lictorref07_factors.l2]; rw [if_pos (by omega), if_pos (by omega), wrap_plain (by omega) (by omega)]
theorem getD_set (l : List Int) (n m : Nat) (v : Int) (hn : n < l.length) : (l.set n v).getD m 0 = if m = n then v else l.getD m 0 := by
  simp only [List.getD_eq_getElem?_getD, List.getElem?_set]
  by_cases h : n = m
  · subst h; simp [hn]
  · rw [if_neg h, if_neg (by omega)]
theorem rd_nat (l : List Int) (m : Nat) : rd l (m : Int) = l.getD m 0 := by simp [rd]
theorem factors_flip (d : Nat) : ∀ (L : List Int) (j : Nat), j + d = 32 → 32 ≤ L.length →
    ∃ L', Ev (fun k => lictorref07_factors.l3 k L (j : Int)) L' ∧ L'.length = L.length ∧ ∀ m, L'.getD m 0 = if j ≤ m ∧ m < 32 then wrap64 (1 - L.getD m 0) else L.getD m 0 := by
  induction d with
  | zero =>
    intro L j hd hL
    refine ⟨L, Ev.step (f := fun _ => some L) (fun k => ?_) (Ev.now _), rfl, fun m => ?_⟩
    · simp only [lictorref07_factors.l3]; rw [if_neg (by omega)]
    · rw [if_neg (by omega)]
  | succ d ih =>
    intro L j hd hL
    obtain ⟨L', h1, h2, h3⟩ := ih (L.set j (wrap64 (1 - L.getD j 0))) (j + 1) (by omega) (by simp; omega)
    refine ⟨L', Ev.step (fun k => ?_) h1, by simpa using h2, fun m => ?_⟩
    · simp only [lictorref07_factors.l3]; rw [if_pos (by omega), if_pos (by omega), if_pos (by omega), rd_nat, wrap_plain (i := (j : Int) + 1) (by omega) (by omega)]; rfl
    · rw [h3 m, getD_set _ _ _ _ (by omega)]
      by_cases hm : m = j
      · subst hm; rw [if_neg (by omega), if_pos rfl, if_pos (by omega)]
      · rw [if_neg hm]
        by_cases hj : j + 1 ≤ m ∧ m < 32
        · rw [if_pos hj, if_pos (by omega)]
        · rw [if_neg hj, if_neg (by omega)]

/-- What stands in the list from place i on: the message's bits, turned by the register. -/
def Stands (P : Nat → Bool) (N i : Nat) (r : W32) (L : List Int) : Prop := L.length = N + 32 ∧ ∀ m, i ≤ m → m < N + 32 → L.getD m 0 = b2i (P m ^^ r.getLsbD (m - i))
theorem factors_is (l : List Int) (hb : Bytes l) (hl : l.length < 281474976710) :
    ∃ L, Ev (fun k => lictorref07_factors.f k l) L ∧ Stands (fun m => (msgBits l).getD m false) (8 * l.length) 0 (BitVec.allOnes 32) L := by
  have hm := msgBits_length l
  obtain ⟨L, h1, h2, h3⟩ := factors_flip 32 ((msgBits l).map b2i ++ List.replicate 32 0) 0 (by omega) (by simp)
  refine ⟨L, ?_, by simpa [hm] using h2, fun m _ h => ?_⟩
  · exact factors_outer l hb hl l.length [] 0 L (by omega) (by simp; omega) (factors_pad 32 _ 0 L (by omega) (by omega) (by simp [hm]; omega) h1)
  · rw [h3 m]
    have hg : ((msgBits l).map b2i ++ List.replicate 32 0).getD m 0 = b2i ((msgBits l).getD m false) := by
      simp only [List.getD_eq_getElem?_getD, List.getElem?_append, List.length_map, List.getElem?_map, List.getElem?_replicate]
      by_cases hlt : m < (msgBits l).length
      · rw [if_pos hlt]; simp [hlt]
      · rw [if_neg hlt, List.getElem?_eq_none (by omega)]
        rw [if_pos (by omega)]; rfl
    rw [hg, BitVec.getLsbD_allOnes, Nat.sub_zero]
    by_cases h32 : m < 32
    · rw [if_pos ⟨by omega, h32⟩, b2i_not]; simp [h32]
    · rw [if_neg (by omega)]; simp [h32]

def pws : List Nat := [26, 23, 22, 16, 12, 11, 10, 8, 7, 5, 4, 2, 1, 0]
def pwI : List Int := [26, 23, 22, 16, 12, 11, 10, 8, 7, 5, 4, 2, 1, 0]
def togs (i : Nat) : List Nat → List Int → List Int
  | [], L => L
  | p :: ps, L => togs i ps (L.set (i + 32 - p) (wrap64 (1 - L.getD (i + 32 - p) 0)))
theorem togs_length (i : Nat) : ∀ (ps : List Nat) (L : List Int), (togs i ps L).length = L.length
  | [], L => rfl
  | p :: ps, L => by rw [togs, togs_length i ps]; simp
theorem togs_get (i : Nat) : ∀ (ps : List Nat) (L : List Int) (m : Nat), ps.Nodup → (∀ p ∈ ps, p ≤ 32) → i + 32 < L.length →
    (togs i ps L).getD m 0 = if m ∈ ps.map (i + 32 - ·) then wrap64 (1 - L.getD m 0) else L.getD m 0
  | [], L, m, _, _, _ => by simp [togs]
  | p :: ps, L, m, hn, hp, hL => by
    have hp0 := hp p (by simp)
    rw [togs, togs_get i ps _ m (List.nodup_cons.1 hn).2 (fun q hq => hp q (by simp [hq])) (by simpa using hL), getD_set _ _ _ _ (by omega)]
    have hnot : m = i + 32 - p → m ∉ ps.map (i + 32 - ·) := by
      intro h hm
      obtain ⟨q, hq, hqm⟩ := List.mem_map.1 hm
      have := hp q (by simp [hq])
      have : q = p := by omega
      subst this
      exact (List.nodup_cons.1 hn).1 hq
    by_cases h : m = i + 32 - p
    · rw [if_neg (hnot h), if_pos h, if_pos (by simp [h]), ← h]
    · rw [if_neg h]
      by_cases hm : m ∈ ps.map (i + 32 - ·)
      · rw [if_pos hm, if_pos (by rw [List.map_cons]; exact List.mem_cons_of_mem _ hm)]
      · rw [if_neg hm, if_neg (by rw [List.map_cons, List.mem_cons]; exact fun o => o.elim h hm)]
theorem div_inner (n : Int) (i : Nat) (d : Nat) : ∀ (j : Nat) (L : List Int) (r : Int), j + d = 14 → i + 32 < L.length → L.length < 9223372036854775807 →
    Ev (fun k => lictorref07_Sum.l0 k (togs i (pws.drop j) L) pwI n (wrap64 ((i : Int) + 1))) r → Ev (fun k => lictorref07_Sum.l1 k L pwI n (i : Int) (j : Int)) r := by
  induction d with
  | zero =>
    intro j L r hd hL hm h
    obtain rfl : j = 14 := by omega
    refine Ev.step (fun k => ?_) h
    simp only [lictorref07_Sum.l1]; rw [if_neg (by decide)]; rfl
  | succ d ih =>
    intro j L r hd hL hm h
    have hj : j < 14 := by omega
    have hpw : rd pwI (j : Int) = ((pws[j]'(by simpa [pws] using hj) : Nat) : Int) := by
      rw [rd_nat]
      match j, hj with
      | 0, _ | 1, _ | 2, _ | 3, _ | 4, _ | 5, _ | 6, _ | 7, _ | 8, _ | 9, _ | 10, _ | 11, _ | 12, _ | 13, _ => rfl
    have hle : pws[j]'(by simpa [pws] using hj) ≤ 26 := (by decide : ∀ p ∈ pws, p ≤ 26) _ (List.getElem_mem _)
    obtain ⟨p, hpp⟩ : ∃ p, p = pws[j]'(by simpa [pws] using hj) := ⟨_, rfl⟩
    rw [← hpp] at hpw hle
    have hix : wrap64 (wrap64 ((i : Int) + 32) - (p : Int)) = ((i + 32 - p : Nat) : Int) := by
      rw [wrap_plain (i := (i : Int) + 32) (by omega) (by omega), wrap_plain (by omega) (by omega)]; omega
    refine Ev.step (fun k => ?_) (ih (j + 1) (L.set (i + 32 - p) (wrap64 (1 - L.getD (i + 32 - p) 0))) r (by omega) (by simpa using hL) (by simpa using hm) (Ev.congr (fun k => by
      rw [List.drop_eq_getElem_cons (l := pws) (i := j) (by simpa [pws] using hj), togs, ← hpp]) h))
    simp only [lictorref07_Sum.l1]
    rw [if_pos (by show (j : Int) < 14; omega), if_pos (by omega), hpw, hix, if_pos (by omega), if_pos (by omega), rd_nat, wrap_plain (i := (j : Int) + 1) (by omega) (by omega), Int.toNat_natCast]; rfl
/-- The last 32 places, the last one first. -/
theorem div_end (N : Nat) (hN : N < 9223372036854775000) (r : W32) (L : List Int) (hL : L.length = N + 32) (h : ∀ j, j < 32 → L.getD (N + j) 0 = b2i (r.getLsbD j)) (j : Nat) :
    j ≤ 32 → Ev (fun k => lictorref07_Sum.l2 k L (N : Int) (((~~~r).toNat / 2 ^ j : Nat) : Int) ((N : Int) + j - 1)) ((~~~r).toNat : Int) := by
  have hr := (~~~r).isLt
  induction j with
  | zero =>
    intro _
    refine Ev.step (f := fun _ => some ((~~~r).toNat : Int)) (fun k => ?_) (Ev.now _)
    simp only [lictorref07_Sum.l2]; rw [if_neg (by omega)]; simp
  | succ j ih =>
    intro hj
    have hb : wrap64 (1 - b2i (r.getLsbD j)) = (((~~~r).toNat / 2 ^ j % 2 : Nat) : Int) := by
      rw [b2i_not]
      have : (~~~r).getLsbD j = !r.getLsbD j := by rw [BitVec.getLsbD_not]; simp [show j < 32 by omega]
      rw [← this, BitVec.getLsbD, b2i, Nat.testBit_eq_decide_div_mod_eq]
      generalize (~~~r).toNat / 2 ^ j = q
      rcases Nat.mod_two_eq_zero_or_one q with h0 | h0 <;> simp [h0] <;> omega
    have hd : (~~~r).toNat / 2 ^ (j + 1) = (~~~r).toNat / 2 ^ j / 2 := by rw [Nat.pow_succ, Nat.div_div_eq_div_mul]
    have hlt : (~~~r).toNat / 2 ^ j < 4294967296 := Nat.lt_of_le_of_lt (Nat.div_le_self _ _) hr
    refine Ev.step (fun k => ?_) (ih (by omega))
    simp only [lictorref07_Sum.l2]
    rw [show (N : Int) + ((j + 1 : Nat) : Int) - 1 = ((N + j : Nat) : Int) from by omega, if_pos (by omega), if_pos (by omega), if_pos (by omega), rd_nat, h j (by omega), hb, hd]
    congr 1
    · generalize (~~~r).toNat / 2 ^ j = q at *
      omega
    · rw [wrap_plain (by omega) (by omega)]; omega
theorem div_outer (P : Nat → Bool) (N : Nat) (hN : N < 9223372036854775000) (hP : ∀ m, N ≤ m → P m = false) (d : Nat) : ∀ (i : Nat) (r : W32) (L : List Int), i + d = N → Stands P N i r L →
    Ev (fun k => lictorref07_Sum.l0 k L pwI (N : Int) (i : Int)) ((~~~ crc r ((List.range d).map fun q => P (i + q))).toNat : Int) := by
  induction d with
  | zero =>
    intro i r L hd hs
    obtain rfl : i = N := by omega
    have he := div_end i hN r L hs.1 (fun j hj => by rw [hs.2 (i + j) (by omega) (by omega), hP _ (by omega), show i + j - i = j from by omega]; simp) 32 (by omega)
    refine Ev.step (fun k => ?_) he
    simp only [lictorref07_Sum.l0]; rw [if_neg (by omega), hs.1, wrap_plain (by omega) (by omega), Nat.div_eq_of_lt (~~~r).isLt]
    congr 1 <;> omega
  | succ d ih =>
    intro i r L hd hs
    have h0 := hs.2 i (by omega) (by omega)
    rw [Nat.sub_self] at h0
    have hc : crc r ((List.range (d + 1)).map fun q => P (i + q)) = crc (sh r (P i)) ((List.range d).map fun q => P (i + 1 + q)) := by
      rw [List.range_succ_eq_map]
      simp only [List.map_cons, List.map_map, crc, List.foldl_cons, Nat.add_zero]
      congr 2
      funext q
      simp [Function.comp, Nat.add_assoc, Nat.add_comm 1]
    rw [hc]
    cases hf : (P i ^^ r.getLsbD 0) with
    | false =>
      rw [hf] at h0
      have hs' : Stands P N (i + 1) (sh r (P i)) L := ⟨hs.1, fun m h1 h2 => by
        rw [hs.2 m (by omega) h2]
        have hx : (r.getLsbD 0 ^^ P i) = false := by rw [Bool.xor_comm]; exact hf
        rw [sh, hx]
        simp only [Bool.false_eq_true, if_false, BitVec.getLsbD_xor, BitVec.getLsbD_zero, Bool.bne_false, Bool.xor_false, BitVec.getLsbD_ushiftRight]
        rw [show 1 + (m - (i + 1)) = m - i from by omega]⟩
      refine Ev.step (fun k => ?_) (ih (i + 1) (sh r (P i)) L (by omega) hs')
      simp only [lictorref07_Sum.l0]
      rw [if_pos (by omega), if_pos (by omega), if_pos (by rw [hs.1]; omega), rd_nat, h0, if_pos (show b2i false = 0 from rfl), wrap_plain (by omega) (by omega)]; rfl
    | true =>
      rw [hf] at h0
      have hnd : pws.Nodup := by decide
      have hle : ∀ p ∈ pws, p ≤ 32 := by decide
      have h26 : ∀ p ∈ pws, p ≤ 26 := by decide
      have hs' : Stands P N (i + 1) (sh r (P i)) (togs i pws (L.set i 0)) := ⟨by rw [togs_length]; simpa using hs.1, fun m h1 h2 => by
        have hg : (L.set i 0).getD m 0 = L.getD m 0 := by rw [getD_set _ _ _ _ (by rw [hs.1]; omega), if_neg (by omega)]
        rw [togs_get i pws _ m hnd hle (by simp [hs.1]; omega), hg, hs.2 m (by omega) h2]
        have hx : (r.getLsbD 0 ^^ P i) = true := by rw [Bool.xor_comm]; exact hf
        rw [sh, hx]
        simp only [if_true, BitVec.getLsbD_xor, BitVec.getLsbD_ushiftRight]
        rw [show 1 + (m - (i + 1)) = m - i from by omega, b2i_not]
        obtain ⟨q, rfl⟩ : ∃ q, m = i + 1 + q := ⟨m - (i + 1), by omega⟩
        rw [show i + 1 + q - (i + 1) = q from by omega]
        have hmem : (i + 1 + q ∈ pws.map (i + 32 - ·)) ↔ dv.getLsbD q = true := by
          have key : ∀ q, q < 32 → ((q ∈ pws.map (31 - ·)) ↔ dv.getLsbD q = true) := by decide
          constructor
          · intro h
            obtain ⟨p, hp, he⟩ := List.mem_map.1 h
            have := h26 p hp
            exact (key q (by omega)).1 (List.mem_map.2 ⟨p, hp, by omega⟩)
          · intro h
            have hq : q < 32 := by
              rcases Nat.lt_or_ge q 32 with h' | h'
              · exact h'
              · rw [BitVec.getLsbD_of_ge _ _ h'] at h; cases h
            obtain ⟨p, hp, he⟩ := List.mem_map.1 ((key q hq).2 h)
            have := h26 p hp
            exact List.mem_map.2 ⟨p, hp, by omega⟩
        by_cases hd' : dv.getLsbD q = true
        · rw [if_pos (hmem.2 hd'), hd']; simp
        · rw [if_neg (fun h => hd' (hmem.1 h)), Bool.eq_false_iff.mpr hd']; simp⟩
      have h3 := ih (i + 1) (sh r (P i)) _ (by omega) hs'
      refine Ev.step (fun k => ?_) (div_inner (N : Int) i 14 0 (L.set i 0) _ rfl (by simp [hs.1]; omega) (by simp [hs.1]; omega) (by rw [List.drop_zero, wrap_plain (by omega) (by omega)]; exact h3))
      simp only [lictorref07_Sum.l0]
      rw [if_pos (by omega), if_pos (by omega), if_pos (by rw [hs.1]; omega), rd_nat, h0, if_neg (by decide)]; rfl
theorem ref_sum_is (l : List Int) (hb : Bytes l) (hl : l.length < 281474976710) : Ev (fun k => lictorref07_Sum.f k l) ((sumB l).toNat : Int) := by
  obtain ⟨L, h1, h2⟩ := factors_is l hb hl
  have h3 := div_outer _ (8 * l.length) (by omega) (fun m hm => by rw [List.getD_eq_getElem?_getD, List.getElem?_eq_none (by rw [msgBits_length]; omega)]; rfl) (8 * l.length) 0 _ L (by omega) h2
  have he : ((List.range (8 * l.length)).map fun q => (msgBits l).getD (0 + q) false) = msgBits l := by
    apply List.ext_getElem
    · simp [msgBits_length]
    · intro n h _
      simp at h
      simp [List.getD_eq_getElem?_getD, msgBits_length, h]
  rw [he] at h3
  refine Ev.bind h1 (Ev.congr (fun k => ?_) h3)
  show (lictorref07_powers.f).bind _ = _
  simp only [lictorref07_powers.f, Option.bind_some, h2.1]
  rw [show wrap64 (((8 * l.length + 32 : Nat) : Int) - 32) = ((8 * l.length : Nat) : Int) from by rw [wrap_plain (by omega) (by omega)]; omega]; rfl

/-! ### bytes of numbers; frames -/
theorem ev_pos {α : Type} {c : Prop} [Decidable c] {f g : Nat → Option α} {r : α} (hc : c) (h : Ev f r) : Ev (fun k => if c then f k else g k) r := Ev.congr (fun k => by rw [if_pos hc]) h
theorem ev_neg {α : Type} {c : Prop} [Decidable c] {f g : Nat → Option α} {r : α} (hc : ¬ c) (h : Ev g r) : Ev (fun k => if c then f k else g k) r := Ev.congr (fun k => by rw [if_neg hc]) h
theorem ev_some {α β : Type} {f : Nat → α → Option β} {a : α} {r : β} (h : Ev (fun k => f k a) r) : Ev (fun k => (some a).bind (f k)) r := Ev.bind (Ev.now a) h
def low2 (x : Nat) : List Int := [((x % 256 : Nat) : Int), ((x / 256 % 256 : Nat) : Int)]
def low4 (x : Nat) : List Int := [((x % 256 : Nat) : Int), ((x / 256 % 256 : Nat) : Int), ((x / 65536 % 256 : Nat) : Int), ((x / 16777216 % 256 : Nat) : Int)]
theorem low2_is (x : Nat) : Ev (fun k => frame_low.f k (x : Int) 2) (low2 x) := by
  refine ⟨4, fun k hk => ?_⟩
  obtain ⟨m, rfl⟩ : ∃ m, k = m + 4 := ⟨k - 4, by omega⟩
  simp [frame_low.f, frame_low.l0, wrap64, shr, IntKind.bits, low2, List.replicate]
theorem low4_is (x : Nat) : Ev (fun k => frame_low.f k (x : Int) 4) (low4 x) := by
  refine ⟨6, fun k hk => ?_⟩
  obtain ⟨m, rfl⟩ : ∃ m, k = m + 6 := ⟨k - 6, by omega⟩
  simp [frame_low.f, frame_low.l0, wrap64, shr, IntKind.bits, low4, List.replicate]
def frameB (l : List Int) : List Int := low2 l.length ++ l ++ low4 (sumB l).toNat
def wrapB (l : List Int) : List Int × Int := if l.length < 1 then ([], 1) else (frameB l, 0)
theorem wrap_is (l : List Int) (hb : Bytes l) (hl : l.length ≤ 1500) : Ev (fun k => frame_Wrap.f k l) (wrapB l) := by
  unfold wrapB
  by_cases h : l.length < 1
  · rw [if_pos h]
    refine Ev.congr (f := fun k => frame_Wrap.j0 k l true) (fun k => by simp only [frame_Wrap.f]; rw [if_pos (by omega)]) ?_
    exact Ev.step (f := fun _ => some ([], 1)) (fun k => by simp only [frame_Wrap.j0, if_true]) (Ev.now _)
  · rw [if_neg h]
    refine Ev.congr (f := fun k => frame_Wrap.j0 k l false) (fun k => by simp only [frame_Wrap.f]; rw [if_neg (by omega), decide_eq_false (by omega)]) ?_
    refine Ev.step (fun k => by simp only [frame_Wrap.j0]; rw [if_neg (by simp)]) ?_
    have hs := (sumB l).isLt
    rw [IntKind.wrap_u64, show ((l.length : Int) % 18446744073709551616) = (l.length : Int) from by omega]
    refine Ev.bind (low2_is l.length) (ev_pos (by simp [low2]; omega) (ev_some (Ev.bind (sum_is l hb (by omega)) ?_)))
    have e2 : IntKind.u64.wrap ((sumB l).toNat : Int) = ((sumB l).toNat : Int) := by rw [IntKind.wrap_u64]; omega
    refine Ev.bind (Ev.congr (fun k => by rw [e2]) (low4_is _)) (ev_pos (by simp [low2, low4]; omega) (Ev.now _))
theorem ref_tail (acc : List Int) (x : Nat) (hx : x < 4294967296) (ha : acc.length < 1000000) : Ev (fun k => lictorref07_Wrap.l0 k acc (x : Int) 0) (acc ++ low4 x, 0) := by
  have step : ∀ (acc : List Int) (x : Nat) (j : Int) (r : List Int × Int), 0 ≤ j → j < 4 → acc.length < 1000010 → x < 4294967296 → Ev (fun k => lictorref07_Wrap.l0 k (acc ++ [((x % 256 : Nat) : Int)]) ((x / 256 : Nat) : Int) (j + 1)) r → Ev (fun k => lictorref07_Wrap.l0 k acc (x : Int) j) r := by
    intro acc x j r h0 h1 h2 h3 h
    refine Ev.step (fun k => ?_) h
    simp only [lictorref07_Wrap.l0]
    rw [if_pos h1, if_pos (by omega), Int.tmod_eq_emod_of_nonneg (by omega), Int.tdiv_eq_ediv_of_nonneg (by omega), wrap_plain (by omega) (by omega)]
    congr 2
    · congr 2; omega
    · omega
  refine step _ _ 0 _ (by omega) (by omega) (by omega) hx (step _ _ 1 _ (by omega) (by omega) (by simp; omega) (by omega) (step _ _ 2 _ (by omega) (by omega) (by simp; omega) (by omega) (step _ _ 3 _ (by omega) (by omega) (by simp; omega) (by omega) ?_)))
  refine Ev.step (f := fun _ => some (acc ++ low4 x, 0)) (fun k => ?_) (Ev.now _)
  simp only [lictorref07_Wrap.l0]
  rw [if_neg (by omega)]
  simp only [low4, List.append_assoc, List.cons_append, List.nil_append, Nat.div_div_eq_div_mul]
theorem ref_wrap_is (l : List Int) (hb : Bytes l) (hl : l.length ≤ 1500) : Ev (fun k => lictorref07_Wrap.f k l) (wrapB l) := by
  unfold wrapB
  by_cases h : l.length < 1
  · rw [if_pos h]
    refine Ev.congr (f := fun k => lictorref07_Wrap.j0 k l (l.length : Int) true) (fun k => by simp only [lictorref07_Wrap.f]; rw [if_pos (by omega)]) ?_
    exact Ev.step (f := fun _ => some ([], 1)) (fun k => by simp only [lictorref07_Wrap.j0, if_true]) (Ev.now _)
  · rw [if_neg h]
    refine Ev.congr (f := fun k => lictorref07_Wrap.j0 k l (l.length : Int) false) (fun k => by simp only [lictorref07_Wrap.f]; rw [if_neg (by omega), decide_eq_false (by omega)]) ?_
    refine Ev.step (fun k => by simp only [lictorref07_Wrap.j0]; rw [if_neg (by simp)]) ?_
    have hs := (sumB l).isLt
    have e : ([(l.length : Int) % 256, (wrap64 ((l.length : Int) / 256)) % 256] : List Int) = low2 l.length := by
      rw [wrap_plain (by omega) (by omega), low2]; simp
    rw [e]
    exact ev_some (ev_pos (by simp [low2]; omega) (Ev.bind (ref_sum_is l hb (by omega)) (ref_tail _ _ hs (by simp [low2]; omega))))
theorem str_inj {a b : List Int} (ha : Bytes a) (hb : Bytes b) : (strOfNums a).toList = (strOfNums b).toList ↔ a = b := by
  constructor
  · intro h
    rw [ByteArray.toList_eq, ByteArray.toList_eq] at h
    simp only [strOfNums] at h
    apply List.ext_getElem
    · have := congrArg List.length h; simpa using this
    · intro n h1 h2
      have h3 := congrArg (fun l : List UInt8 => l[n]?) h
      simp [h1, h2] at h3
      have hx := ha _ (List.getElem_mem h1)
      have hy := hb _ (List.getElem_mem h2)
      have h4 := congrArg UInt8.toNat h3
      simp at h4
      omega
  · rintro rfl; rfl

/-! ### logs -/
theorem or_bytes (a b : Nat) (ha : a < 256) (hb : b < 256) : Go.bits .or .i64 (a : Int) ((b : Int) * 256) = ((a + 256 * b : Nat) : Int) := by
  have e : a ||| b * 256 = a + 256 * b := by
    have := Nat.two_pow_add_eq_or_of_lt (i := 8) (b := a) (by omega) b
    rw [Nat.or_comm, Nat.mul_comm b, Nat.add_comm a]; exact this.symm
  show IntKind.i64.wrap ((BitVec.ofInt 64 (a : Int) ||| BitVec.ofInt 64 ((b : Int) * 256)).toNat : Int) = _
  have h1 : (BitVec.ofInt 64 (a : Int)).toNat = a := by rw [BitVec.ofInt_natCast, BitVec.toNat_ofNat]; omega
  have h2 : (BitVec.ofInt 64 ((b : Int) * 256)).toNat = b * 256 := by
    rw [show (b : Int) * 256 = ((b * 256 : Nat) : Int) from by omega, BitVec.ofInt_natCast, BitVec.toNat_ofNat]; omega
  rw [BitVec.toNat_or, h1, h2, e, IntKind.wrap_i64]
  omega
theorem bytes_take {l : List Int} (h : Bytes l) (n : Nat) : Bytes (l.take n) := fun x hx => h x (List.mem_of_mem_take hx)
theorem bytes_drop {l : List Int} (h : Bytes l) (n : Nat) : Bytes (l.drop n) := fun x hx => h x (List.mem_of_mem_drop hx)
/-- What is in a log's first frame. -/
def firstB (d : List Int) : List Int × Bool :=
  if d.length < 2 then ([], false) else
    let n := (d.getD 0 0 + 256 * d.getD 1 0).toNat
    if n < 1 ∨ d.length < 2 + n + 4 then ([], false) else
      ((d.take (2 + n)).drop 2, decide ((d.take (2 + n + 4)).drop (2 + n) = low4 (sumB ((d.take (2 + n)).drop 2)).toNat))
theorem low4_bytes (x : Nat) : Bytes (low4 x) := by
  intro y hy
  simp only [low4, List.mem_cons, List.not_mem_nil, or_false] at hy
  omega
theorem low2_bytes (x : Nat) : Bytes (low2 x) := by
  intro y hy
  simp only [low2, List.mem_cons, List.not_mem_nil, or_false] at hy
  omega
theorem first_is (d : List Int) (hb : Bytes d) (hl : d.length ≤ 1500) : Ev (fun k => frame_first.f k d) (firstB d) := by
  unfold firstB
  by_cases h2 : d.length < 2
  · rw [if_pos h2]
    exact Ev.congr (f := fun _ => some ([], false)) (fun k => by simp only [frame_first.f]; rw [if_pos (by omega)]) (Ev.now _)
  · rw [if_neg h2]
    obtain ⟨a, b, t, rfl⟩ : ∃ a b t, d = a :: b :: t := by
      match d, h2 with
      | a :: b :: t, _ => exact ⟨a, b, t, rfl⟩
      | [], h => exact absurd (by simp) h
      | [_], h => exact absurd (by simp) h
    have ha := hb a (by simp)
    have hbb := hb b (by simp)
    obtain ⟨x, rfl⟩ : ∃ x : Nat, a = (x : Int) := ⟨a.toNat, by omega⟩
    obtain ⟨y, rfl⟩ : ∃ y : Nat, b = (y : Int) := ⟨b.toNat, by omega⟩
    have en : (((x : Int) :: (y : Int) :: t).getD 0 0 + 256 * ((x : Int) :: (y : Int) :: t).getD 1 0).toNat = x + 256 * y := by simp; omega
    have eo : Go.bits .or .i64 (wrap64 (rd ((x : Int) :: (y : Int) :: t) 0)) (wrap64 (wrap64 (rd ((x : Int) :: (y : Int) :: t) 1) * 256)) = ((x + 256 * y : Nat) : Int) := by
      have r0 : rd ((x : Int) :: (y : Int) :: t) 0 = x := rfl
      have r1 : rd ((x : Int) :: (y : Int) :: t) 1 = y := rfl
      rw [r0, r1, wrap_plain (i := (x : Int)) (by omega) (by omega), wrap_plain (i := (y : Int)) (by omega) (by omega), wrap_plain (by omega) (by omega), or_bytes x y (by omega) (by omega)]
    simp only [en]
    obtain ⟨d, hd⟩ : ∃ d, d = (x : Int) :: (y : Int) :: t := ⟨_, rfl⟩
    rw [← hd] at eo h2 hb hl ⊢
    have e2 : ∀ n : Nat, n < 100000 → wrap64 (2 + (n : Int)) = ((2 + n : Nat) : Int) := fun n hn => by rw [wrap_plain (by omega) (by omega)]; omega
    have e4 : ∀ n : Nat, n < 100000 → wrap64 (((2 + n : Nat) : Int) + 4) = ((2 + n + 4 : Nat) : Int) := fun n hn => by rw [wrap_plain (by omega) (by omega)]; omega
    have hn : x + 256 * y < 100000 := by omega
    obtain ⟨n, hnn⟩ : ∃ n, n = x + 256 * y := ⟨_, rfl⟩
    rw [← hnn] at eo hn ⊢
    have start : ∀ c : Bool, decide (n < 1 ∨ d.length < 2 + n + 4) = c → Ev (fun k => frame_first.j0 k d (n : Int) c) (if n < 1 ∨ d.length < 2 + n + 4 then ([], false) else ((d.take (2 + n)).drop 2, decide ((d.take (2 + n + 4)).drop (2 + n) = low4 (sumB ((d.take (2 + n)).drop 2)).toNat))) → Ev (fun k => frame_first.f k d) (if n < 1 ∨ d.length < 2 + n + 4 then ([], false) else ((d.take (2 + n)).drop 2, decide ((d.take (2 + n + 4)).drop (2 + n) = low4 (sumB ((d.take (2 + n)).drop 2)).toNat))) := by
      intro c hc h
      refine Ev.congr (fun k => ?_) h
      simp only [frame_first.f]
      rw [if_neg (by omega), if_pos (by omega), if_pos (by omega), eo, e2 n hn, e4 n hn]
      by_cases h1 : n < 1
      · rw [if_pos (by omega)]
        rw [decide_eq_true (.inl h1)] at hc
        rw [hc]
      · rw [if_neg (by omega), ← hc]
        congr 1
        by_cases h6 : d.length < 2 + n + 4
        · rw [decide_eq_true (by omega), decide_eq_true (.inr h6)]
        · rw [decide_eq_false (by omega), decide_eq_false (by omega)]
    by_cases hbad : n < 1 ∨ d.length < 2 + n + 4
    · refine start true (decide_eq_true hbad) ?_
      rw [if_pos hbad]
      exact Ev.step (f := fun _ => some ([], false)) (fun k => by simp only [frame_first.j0, if_true]) (Ev.now _)
    · refine start false (decide_eq_false hbad) ?_
      rw [if_neg hbad]
      have hbody : ((d.take (2 + n)).drop 2).length = n := by simp; omega
      have hB := bytes_drop (bytes_take hb (2 + n)) 2
      refine Ev.step (fun k => by
        simp only [frame_first.j0]
        rw [if_neg (by simp), e2 n hn, e4 n hn, Int.toNat_natCast, Int.toNat_natCast, if_pos (by omega), if_pos (by omega)]) ?_
      refine Ev.bind (a := (d.take (2 + n)).drop 2) (Ev.congr (fun k => by simp only [bytes_Clone.f]; rw [if_pos (by omega)]) (Ev.now _)) ?_
      refine ev_pos (by omega) (ev_pos (by omega) (ev_pos (by omega) ?_))
      refine Ev.bind (sum_is _ hB (by omega)) ?_
      have e3 : IntKind.u64.wrap ((sumB ((d.take (2 + n)).drop 2)).toNat : Int) = ((sumB ((d.take (2 + n)).drop 2)).toNat : Int) := by
        have := (sumB ((d.take (2 + n)).drop 2)).isLt
        rw [IntKind.wrap_u64]; omega
      refine Ev.bind (Ev.congr (fun k => by rw [e3]) (low4_is _)) ?_
      refine Ev.congr (f := fun _ => some ((d.take (2 + n)).drop 2, decide ((d.take (2 + n + 4)).drop (2 + n) = low4 (sumB ((d.take (2 + n)).drop 2)).toNat))) (fun k => ?_) (Ev.now _)
      simp only [bytes_Equal.f, Option.bind_some]
      congr 2
      rw [Bool.eq_iff_iff, beq_iff_eq, decide_eq_true_eq]
      exact str_inj (bytes_drop (bytes_take hb _) _) (low4_bytes _)

theorem frame_take (d : List Int) (hb : Bytes d) (n : Nat) (hd : 2 + n + 4 ≤ d.length) (hn : n = (d.getD 0 0 + 256 * d.getD 1 0).toNat) :
    (frameB ((d.take (2 + n)).drop 2) = d.take (n + 6)) ↔ (d.take (2 + n + 4)).drop (2 + n) = low4 (sumB ((d.take (2 + n)).drop 2)).toNat := by
  obtain ⟨a, b, t, rfl⟩ : ∃ a b t, d = a :: b :: t := by
    match d, hd with
    | a :: b :: t, _ => exact ⟨a, b, t, rfl⟩
    | [], h => exact absurd h (by simp)
    | [_], h => exact absurd h (by simp)
  have ha := hb a (by simp)
  have hbb := hb b (by simp)
  have hn' : n = (a + 256 * b).toNat := hn
  simp only [List.length_cons] at hd
  have e1 : ((a :: b :: t).take (2 + n)).drop 2 = t.take n := by rw [show 2 + n = n + 1 + 1 from by omega]; rfl
  have e2 : (a :: b :: t).take (n + 6) = [a, b] ++ t.take n ++ ((t.take (n + 4)).drop n) := by
    rw [show n + 6 = (n + 4) + 1 + 1 from by omega]
    simp only [List.take_succ_cons, List.cons_append, List.nil_append]
    congr 2
    have h := List.take_append_drop n (t.take (n + 4))
    rw [List.take_take, show min n (n + 4) = n from by omega] at h
    exact h.symm
  have e3 : ((a :: b :: t).take (2 + n + 4)).drop (2 + n) = (t.take (n + 4)).drop n := by
    rw [show 2 + n + 4 = (n + 4) + 1 + 1 from by omega, show 2 + n = n + 1 + 1 from by omega]; rfl
  have hl : (t.take n).length = n := by simp; omega
  rw [e1, e2, e3, frameB, hl]
  have e4 : low2 n = [a, b] := by
    rw [low2]
    congr 1
    · omega
    · congr 1; omega
  rw [e4, List.append_cancel_left_eq]
  exact eq_comm
theorem scan_both (log : List Int) (hb : Bytes log) (hl : log.length ≤ 1500) (m : Nat) : ∀ (at_ : Nat) (acc : List (List Int)), at_ ≤ log.length → log.length - at_ ≤ m → acc.length ≤ at_ → (∀ x ∈ acc, Bytes x) →
    ∃ r : List (List Int) × Int, Ev (fun k => frame_Scan.l0 k log acc (at_ : Int)) r ∧ Ev (fun k => lictorref07_Scan.l0 k log acc (at_ : Int)) r ∧ (∀ x ∈ r.1, Bytes x) ∧ r.1.length ≤ 1500 := by
  induction m using Nat.strongRecOn with
  | _ m ih =>
    intro at_ acc h1 h2 hacc haccb
    obtain ⟨d, hd⟩ : ∃ d, d = log.drop at_ := ⟨_, rfl⟩
    have hdb : Bytes d := by rw [hd]; exact bytes_drop hb _
    have hdl : d.length = log.length - at_ := by rw [hd]; simp
    have hf := first_is d hdb (by omega)
    -- the program's round
    have prog : ∀ r, Ev (fun k => if (firstB d).2 = true then (if acc.length < 5864062014805 then frame_Scan.l0 k log (acc ++ [(firstB d).1]) (wrap64 ((at_ : Int) + wrap64 (wrap64 (2 + ((firstB d).1.length : Int)) + 4))) else none) else some (acc, (at_ : Int))) r → Ev (fun k => frame_Scan.l0 k log acc (at_ : Int)) r := by
      intro r h
      refine Ev.step (fun k => ?_) (Ev.bind (f := fun k b => if b.2 = true then (if acc.length < 5864062014805 then frame_Scan.l0 k log (acc ++ [b.1]) (wrap64 ((at_ : Int) + wrap64 (wrap64 (2 + (b.1.length : Int)) + 4))) else none) else some (acc, (at_ : Int))) hf h)
      simp only [frame_Scan.l0]
      rw [if_pos (by omega), if_pos (by omega), Int.toNat_natCast, ← hd]
    have hat : (log.length ≤ 1500) := hl
    have ew : ∀ n : Nat, n < 100000 → wrap64 ((at_ : Int) + (n : Int)) = ((at_ + n : Nat) : Int) := fun n hn => by rw [wrap_plain (by omega) (by omega)]; omega
    have ew2 : ∀ _ : Unit, wrap64 ((at_ : Int) + 2) = ((at_ + 2 : Nat) : Int) := fun _ => by rw [wrap_plain (by omega) (by omega)]; omega
    have ew1 : ∀ _ : Unit, wrap64 ((at_ : Int) + 1) = ((at_ + 1 : Nat) : Int) := fun _ => by rw [wrap_plain (by omega) (by omega)]; omega
    by_cases h2' : d.length < 2
    · refine ⟨(acc, (at_ : Int)), prog _ ?_, ?_, haccb, by simp only; omega⟩
      · rw [show firstB d = ([], false) from by unfold firstB; rw [if_pos h2']]
        exact ev_neg (by simp) (Ev.now _)
      · refine Ev.step (f := fun _ => some (acc, (at_ : Int))) (fun k => ?_) (Ev.now _)
        simp only [lictorref07_Scan.l0]
        rw [ew2 (), if_neg (by omega)]
    · have g0 : log.getD at_ 0 = d.getD 0 0 := by rw [hd]; simp [List.getD_eq_getElem?_getD, List.getElem?_drop]
      have g1 : log.getD (at_ + 1) 0 = d.getD 1 0 := by rw [hd]; simp [List.getD_eq_getElem?_getD, List.getElem?_drop]
      have b0 : 0 ≤ d.getD 0 0 ∧ d.getD 0 0 < 256 := by
        have : 0 < d.length := by omega
        have e : d.getD 0 0 = d[0] := by simp [List.getD_eq_getElem?_getD, this]
        rw [e]; exact hdb _ (List.getElem_mem _)
      have b1 : 0 ≤ d.getD 1 0 ∧ d.getD 1 0 < 256 := by
        have : 1 < d.length := by omega
        have e : d.getD 1 0 = d[1] := by simp [List.getD_eq_getElem?_getD, this]
        rw [e]; exact hdb _ (List.getElem_mem _)
      obtain ⟨n, hn⟩ : ∃ n, n = (d.getD 0 0 + 256 * d.getD 1 0).toNat := ⟨_, rfl⟩
      have hn5 : n < 70000 := by omega
      have en : ∀ _ : Unit, wrap64 (wrap64 (rd log (at_ : Int)) + wrap64 (256 * wrap64 (rd log (wrap64 ((at_ : Int) + 1))))) = (n : Int) := fun _ => by
        rw [ew1 (), rd_nat, rd_nat, g0, g1, wrap_plain (i := d.getD 0 0) (by omega) (by omega), wrap_plain (i := d.getD 1 0) (by omega) (by omega), wrap_plain (i := 256 * d.getD 1 0) (by omega) (by omega), wrap_plain (by omega) (by omega)]
        omega
      have e6 : ∀ _ : Unit, wrap64 (wrap64 ((at_ : Int) + (n : Int)) + 6) = ((at_ + n + 6 : Nat) : Int) := fun _ => by
        rw [ew n (by omega), wrap_plain (by omega) (by omega)]; omega
      -- the reference's round
      have ref : ∀ (r : List (List Int) × Int) (c : Bool), decide (n < 1 ∨ d.length < 2 + n + 4) = c → Ev (fun k => lictorref07_Scan.j1 k log acc (at_ : Int) (n : Int) c) r → Ev (fun k => lictorref07_Scan.l0 k log acc (at_ : Int)) r := by
        intro r c hc h
        refine Ev.step (fun k => ?_) h
        simp only [lictorref07_Scan.l0]
        rw [ew2 (), if_pos (by omega), if_pos (by omega), if_pos (by omega)]
        rw [en (), e6 (), ew1 (), if_pos (by omega), if_pos (by omega)]
        by_cases hn1 : n < 1
        · rw [if_pos (by omega)]
          rw [decide_eq_true (.inl hn1)] at hc
          rw [← hc]
        · rw [if_neg (by omega), ← hc]
          congr 1
          by_cases h6 : d.length < 2 + n + 4
          · rw [decide_eq_true (by omega), decide_eq_true (.inr h6)]
          · rw [decide_eq_false (by omega), decide_eq_false (by omega)]
      by_cases hbad : n < 1 ∨ d.length < 2 + n + 4
      · refine ⟨(acc, (at_ : Int)), prog _ ?_, ref _ true (decide_eq_true hbad) ?_, haccb, by simp only; omega⟩
        · rw [show firstB d = ([], false) from by unfold firstB; rw [if_neg h2']; simp only [← hn]; rw [if_pos hbad]]
          exact ev_neg (by simp) (Ev.now _)
        · exact Ev.step (f := fun _ => some (acc, (at_ : Int))) (fun k => by simp only [lictorref07_Scan.j1, if_true]) (Ev.now _)
      · have hfb : firstB d = ((d.take (2 + n)).drop 2, decide ((d.take (2 + n + 4)).drop (2 + n) = low4 (sumB ((d.take (2 + n)).drop 2)).toNat)) := by
          unfold firstB; rw [if_neg h2']; simp only [← hn]; rw [if_neg hbad]
        obtain ⟨body, hbody⟩ : ∃ body, body = (d.take (2 + n)).drop 2 := ⟨_, rfl⟩
        have hbl : body.length = n := by rw [hbody]; simp; omega
        have hbb : Bytes body := by rw [hbody]; exact bytes_drop (bytes_take hdb _) _
        have c1 : (log.take (at_ + 2 + n)).drop (at_ + 2) = body := by
          rw [hbody, hd, List.take_drop, List.drop_drop, Nat.add_assoc]
        have c2 : (log.take (at_ + n + 6)).drop at_ = d.take (n + 6) := by
          rw [hd, List.take_drop, Nat.add_assoc]
        have key := frame_take d hdb n (by omega) hn
        rw [← hbody] at key
        have e22 : ∀ _ : Unit, wrap64 (((at_ + 2 : Nat) : Int) + (n : Int)) = ((at_ + 2 + n : Nat) : Int) := fun _ => by rw [wrap_plain (by omega) (by omega)]; omega
        have refgo : ∀ r, Ev (fun k => if (strOfNums (frameB body)).toList = (strOfNums (d.take (n + 6))).toList then (if ([] : List Int).length + body.length < 140737488355328 then (if acc.length < 5864062014805 then lictorref07_Scan.l0 k log (acc ++ [[] ++ body]) ((at_ + n + 6 : Nat) : Int) else none) else none) else some (acc, (at_ : Int))) r → Ev (fun k => lictorref07_Scan.l0 k log acc (at_ : Int)) r := by
          intro r h
          refine ref r false (decide_eq_false hbad) ?_
          have hw := ref_wrap_is body hbb (by omega)
          rw [show wrapB body = (frameB body, 0) from by unfold wrapB; rw [if_neg (by omega)]] at hw
          refine Ev.step (fun k => by
            simp only [lictorref07_Scan.j1]
            rw [if_neg (by simp), ew2 (), e22 (), e6 (), Int.toNat_natCast, Int.toNat_natCast, Int.toNat_natCast, Int.toNat_natCast, c1, c2, if_pos (by omega), if_pos (by omega), if_pos (by omega)]) ?_
          refine ev_some (Ev.bind hw (ev_pos (by omega) (ev_pos (by omega) (ev_pos (by omega) ?_))))
          exact h
        by_cases hgood : (d.take (2 + n + 4)).drop (2 + n) = low4 (sumB body).toNat
        · obtain ⟨r, r1, r2, r3, r4⟩ := ih (log.length - (at_ + n + 6)) (by omega) (at_ + n + 6) (acc ++ [body]) (by omega) (Nat.le_refl _) (by simp; omega) (by
            intro x hx
            rcases List.mem_append.1 hx with hx | hx
            · exact haccb x hx
            · simp only [List.mem_singleton] at hx; subst hx; exact hbb)
          refine ⟨r, prog r ?_, refgo r ?_, r3, r4⟩
          · rw [hfb, ← hbody, decide_eq_true hgood]
            refine ev_pos rfl (ev_pos (by omega) ?_)
            simp only [hbl]
            have : wrap64 ((at_ : Int) + wrap64 (wrap64 (2 + (n : Int)) + 4)) = ((at_ + n + 6 : Nat) : Int) := by
              rw [wrap_plain (i := 2 + (n : Int)) (by omega) (by omega), wrap_plain (i := 2 + (n : Int) + 4) (by omega) (by omega), wrap_plain (by omega) (by omega)]; omega
            rw [this]
            exact r1
          · refine ev_pos ?_ (ev_pos (by simp; omega) (ev_pos (by omega) ?_))
            · rw [key.2 hgood]
            · simp only [List.nil_append]; exact r2
        · refine ⟨(acc, (at_ : Int)), prog _ ?_, refgo _ ?_, haccb, by simp only; omega⟩
          · rw [hfb, ← hbody, decide_eq_false hgood]
            exact ev_neg (by simp) (Ev.now _)
          · refine ev_neg (fun h => hgood (key.1 ?_)) (Ev.now _)
            refine (str_inj ?_ (bytes_take hdb _)).1 h
            intro x hx
            rw [frameB, List.mem_append, List.mem_append] at hx
            rcases hx with (hx | hx) | hx
            · exact low2_bytes _ x hx
            · exact hbb x hx
            · exact low4_bytes _ x hx
theorem same_self (l : List (List Int)) (hl : l.length ≤ 1500) : Ev (fun k => lictorref07_Same.f k l l) true := by
  have go : ∀ (d i : Nat), i + d = l.length → Ev (fun k => lictorref07_Same.l0 k l l (i : Int)) true := by
    intro d
    induction d with
    | zero =>
      intro i hi
      refine Ev.step (f := fun _ => some true) (fun k => ?_) (Ev.now _)
      simp only [lictorref07_Same.l0]; rw [if_neg (by omega)]
    | succ d ih =>
      intro i hi
      refine Ev.step (fun k => ?_) (ih (i + 1) (by omega))
      simp only [lictorref07_Same.l0, if_true]; rw [if_pos (by omega), if_pos (by omega), if_pos (by omega), wrap_plain (by omega) (by omega)]; rfl
  refine Ev.congr (fun k => ?_) (go l.length 0 (by omega))
  simp only [lictorref07_Same.f, if_true]; rfl
theorem bytes_of {l : List Int} (h : ∀ x ∈ l, (Lit.int .u8 x).wf = true) : Bytes l := by
  intro x hx
  have := h x hx
  simp [Lit.wf, IntKind.min, IntKind.max, IntKind.signed, IntKind.bits] at this
  omega
theorem FrameTells : lictorlaw07_FrameTells.Pure := by
  intro b log _ _ hb0 _ _ hl0
  have hb := bytes_of hb0
  have hl := bytes_of hl0
  refine Ev.rounds ?_
  have start : ∀ c : Bool, decide (b.length > 1500 ∨ log.length > 1500) = c → Ev (fun k => lictorlaw07_FrameTells.j0 k b log c) true → Ev (fun k => lictorlaw07_FrameTells.f k b log) true := by
    intro c hc h
    refine Ev.congr (fun k => ?_) h
    simp only [lictorlaw07_FrameTells.f]
    by_cases h1 : b.length > 1500
    · rw [if_pos (by omega), ← hc, decide_eq_true (.inl h1)]
    · rw [if_neg (by omega), ← hc]
      congr 1
      by_cases h2 : log.length > 1500
      · rw [decide_eq_true (by omega), decide_eq_true (.inr h2)]
      · rw [decide_eq_false (by omega), decide_eq_false (by omega)]
  by_cases hbig : b.length > 1500 ∨ log.length > 1500
  · refine start true (decide_eq_true hbig) ?_
    exact Ev.step (f := fun _ => some true) (fun k => by simp only [lictorlaw07_FrameTells.j0, if_true, lictorlaw07_alive.f, Option.bind_some]) (Ev.now _)
  · refine start false (decide_eq_false hbig) ?_
    obtain ⟨r, r1, r2, r3, r4⟩ := scan_both log hl (by omega) log.length 0 [] (by omega) (by omega) (by simp) (by simp)
    refine Ev.step (fun k => by simp only [lictorlaw07_FrameTells.j0]; rw [if_neg (by simp)]) ?_
    refine Ev.bind (wrap_is b hb (by omega)) (Ev.bind (ref_wrap_is b hb (by omega)) (Ev.bind r1 (Ev.bind r2 (Ev.bind (same_self r.1 r4) ?_))))
    refine Ev.bind (g := fun _ => lictorlaw07_alive.f) (Ev.now _) (ev_pos rfl (Ev.bind (sum_is b hb (by omega)) (Ev.bind (ref_sum_is b hb (by omega)) ?_)))
    refine ev_pos rfl (ev_pos rfl (ev_pos rfl (ev_pos rfl ?_)))
    simp only [beq_self_eq_true]
    exact Ev.now _
end Go.Proofs.Ytcfakoocldahaaa.Pure
