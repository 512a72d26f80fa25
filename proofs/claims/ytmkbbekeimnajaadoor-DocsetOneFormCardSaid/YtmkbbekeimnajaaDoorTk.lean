/- plain: what take reads; the slice of a whole array variable -/
import Derived.Test.YtmkbbekeimnajaaDoorLa
import Derived.Test.YtmkbbekeimnajaaDoorSa
namespace Go.Proofs.YtmkbbekeimnajaaDoor
open Go.RowKit Ds
theorem wpList_slice_all {P : Program} {ops : Array Oper} {rest : List Oper} {o : Oper} {a : Act} {w : World} {Q : Exit → Act → World → Prop} (hgd : o.guard = none) (ty : TypeId) (x : Operand) (ho : o.op = .slice ty x none none none)
    (g : Nat) (hx : a.eval x = .pointer (some ⟨g, 0, none⟩)) (N : Nat) (el : TypeId) (hu : P.underlying ty = some (.array N el)) (i : TypeInfo) (hi : P.info? el = some i) (hN : N ≠ 0)
    (h : wpList P ops Q rest (a.put o.dst (.slice (some ⟨g, 0, none⟩) N N)) w) : wpList P ops Q (o :: rest) a w :=
  wpList_plain hgd fun _ hK => by
    have hb : (⟨g, 0, none⟩ : Addr).add 0 = ⟨g, 0, none⟩ := by unfold Addr.add; split <;> simp_all
    unfold Oper.wp execOp
    simp only [ho, hx, Option.map, Instr.sliceAt, Instr.sureAddr, Instr.sliceBounds, Instr.sliceBound, Sem.run_bind, Sem.run_pure, Result.andThen_ok, run_underlying hu]
    simp [hN, sizeOf, typeInfo, hi, hb]
    exact hK _ _ h
theorem setB_congr {m : Nat → Bool} {n j : Nat} {f g : Nat → Bool} (h : ∀ i, i < wid n j → f i = g i) : setB m n j f = setB m n j g := by
  funext k
  unfold setB
  split
  · rename_i hk
    exact h _ (by omega)
  · rfl
theorem oct_num (ps : List Nat) (hx : ∀ x ∈ ps, x < 256) (j : Nat) : oct (bitAt ps) j = ps.getD j 0 := by
  unfold oct
  refine (num_ext ?_ fun i hi => ?_).symm
  · by_cases h : j < ps.length
    · rw [getD_lt h]; exact hx _ (List.getElem_mem h)
    · rw [getD_ge (by omega)]; decide
  · unfold bitAt
    rw [show (8 * j + i) / 8 = j by omega, show (8 * j + i) % 8 = i by omega]
theorem octs_bits (ps : List Nat) (hx : ∀ x ∈ ps, x < 256) (hl : ps.length ≤ 32) (N : Nat) (hN : N = 32) : splice (u8s (List.replicate N 0)) 0 (u8s ps) = octs (bitAt ps) := by
  unfold splice
  rw [List.take_zero, List.nil_append, Nat.zero_add]
  apply List.ext_getElem?
  intro j
  by_cases hj : j < 32
  · rw [octs_get _ hj, oct_num ps hx]
    by_cases h : j < ps.length
    · rw [List.getElem?_append_left (by rw [u8s_len]; exact h), getD_lt h]
      simp [u8s, h]
    · rw [List.getElem?_append_right (by rw [u8s_len]; omega), List.getElem?_drop, u8s_len, getD_ge (by omega)]
      have : ps.length + (j - ps.length) < N := by omega
      simp [u8s, this]
  · rw [List.getElem?_eq_none (by rw [List.length_append, List.length_drop, u8s_len, u8s_len, List.length_replicate]; omega), List.getElem?_eq_none (by rw [octs_len]; omega)]
/-- the members under way: each place turned -/
def flipT (b : Bool) (W : Nat) (ps : List Nat) : Nat → Bool := fun i => (fillF b W i) != (has ps i)
theorem flip_nil (b : Bool) (W : Nat) : flipT b W [] = fillF b W := by funext i; simp [flipT, has]
theorem flip_snoc {b : Bool} {W x : Nat} {ps : List Nat} (h : has ps x = false) : flipT b W (ps ++ [x]) = put (flipT b W ps) x (!flipT b W ps x) := by
  funext i
  unfold put flipT
  by_cases e : i = x
  · subst e
    rw [if_pos rfl, h]
    have : has (ps ++ [i]) i = true := by simp [has]
    rw [this]
    cases fillF b W i <;> rfl
  · rw [if_neg e]
    have : has (ps ++ [x]) i = has ps i := by simp [has, e]
    rw [this]
theorem has_take {W i x : Nat} {ps : List Nat} (h : rising W ps) (hx : ps[i]? = some x) : has (ps.take i) x = false := by
  unfold has
  rw [Bool.eq_false_iff]
  intro hc
  have hm : x ∈ ps.take i := by simpa using hc
  obtain ⟨k, hk⟩ := List.mem_iff_getElem?.1 hm
  rw [List.getElem?_take] at hk
  split at hk
  · rename_i hki
    have := rising_lt h (i - k - 1) k x x hk (by rw [show k + (i - k - 1) + 1 = i by omega]; exact hx)
    omega
  · cases hk
theorem flip_lt {b : Bool} {W : Nat} {ps : List Nat} (h : rising W ps) : ∀ i, i < 256 → flipT b W ps i = true → i < W := by
  intro i _ hi
  by_cases hw : i < W
  · exact hw
  · have h1 : fillF b W i = false := by unfold fillF; rw [decide_eq_false hw]; simp
    have h2 : has ps i = false := by
      unfold has
      rw [Bool.eq_false_iff]
      intro hc
      exact hw (h.1 i (by simpa using hc))
    unfold flipT at hi
    rw [h1, h2] at hi
    simp at hi
theorem flip_list {W : Nat} {ps : List Nat} : ∀ i, flipT false W ps i = has ps i := fun i => by unfold flipT fillF; simp
theorem flip_hole {W : Nat} {ps : List Nat} : ∀ i, i < W → flipT true W ps i = inv (has ps) i := fun i hi => by unfold flipT fillF inv; rw [decide_eq_true hi]; cases has ps i <;> rfl
/-- the forms, told apart -/
theorem took_inv {W : Nat} {b r : List Nat} {f : Nat → Bool} (h : Took W b f r) : (b = 0 :: r) ∨ (b = 1 :: r) ∨ (∃ k ps, b = 2 :: k :: (ps ++ r) ∧ ps.length = k + 1 ∧ rising W ps ∧ tagOf W (cnt (has ps) W) = 2) ∨
    (∃ k ps, b = 3 :: k :: (ps ++ r) ∧ ps.length = k + 1 ∧ rising W ps ∧ tagOf W (cnt (inv (has ps)) W) = 3) ∨
    (∃ ps, b = 4 :: (ps ++ r) ∧ ps.length = (W + 7) / 8 ∧ (∀ i, W ≤ i → i < 256 → bitAt ps i = false) ∧ tagOf W (cnt (bitAt ps) W) = 4) := by
  cases h with
  | none => exact .inl rfl
  | all => exact .inr (.inl rfl)
  | list k ps r h1 h2 h3 => exact .inr (.inr (.inl ⟨k, ps, rfl, h1, h2, h3⟩))
  | hole k ps r h1 h2 h3 => exact .inr (.inr (.inr (.inl ⟨k, ps, rfl, h1, h2, h3⟩)))
  | bits ps r h1 h2 h3 h4 => exact .inr (.inr (.inr (.inr ⟨ps, rfl, h1, h3, h4⟩)))
theorem xor_bit8 (m : Nat → Bool) (i : Nat) : bits .xor .u8 ((oct m (i / 8) : Nat) : Int) (IntKind.u8.wrap (2 ^ (i % 8))) = ((oct (put m i (!m i)) (i / 8) : Nat) : Int) := by
  have hw := oct_lt (put m i (!m i)) (i / 8)
  have hp : 2 ^ (i % 8) < 2 ^ 8 := Nat.pow_lt_pow_right (by omega) (Nat.mod_lt _ (by omega))
  have e1 : IntKind.u8.wrap ((2 : Int) ^ (i % 8)) = ((2 ^ (i % 8) : Nat) : Int) := by
    have e2 : (2 : Int) ^ (i % 8) = ((2 ^ (i % 8) : Nat) : Int) := by rw [Int.natCast_pow]; rfl
    rw [IntKind.wrap_u8, e2]
    generalize 2 ^ (i % 8) = p at hp ⊢
    omega
  have hx : (BitVec.ofNat 8 (oct m (i / 8)) ^^^ BitVec.ofNat 8 (2 ^ (i % 8))).toNat = oct (put m i (!m i)) (i / 8) := by
    refine num_ext (BitVec.isLt _) fun k hk => ?_
    rw [BitVec.testBit_toNat, BitVec.getLsbD_xor, BitVec.getLsbD_ofNat, BitVec.getLsbD_ofNat, oct_bit, Nat.testBit_two_pow]
    unfold put
    by_cases h : i % 8 = k
    · rw [if_pos (by omega)]; simp [h, hk, show 8 * (i / 8) + k = i by omega]
    · rw [if_neg (by omega)]; simp [h, hk]
  rw [e1]
  show IntKind.u8.wrap ((BitVec.ofInt 8 ((oct m (i / 8) : Nat) : Int) ^^^ BitVec.ofInt 8 ((2 ^ (i % 8) : Nat) : Int)).toNat : Int) = _
  rw [BitVec.ofInt_natCast, BitVec.ofInt_natCast, hx, IntKind.wrap_u8]
  omega
end Go.Proofs.YtmkbbekeimnajaaDoor
