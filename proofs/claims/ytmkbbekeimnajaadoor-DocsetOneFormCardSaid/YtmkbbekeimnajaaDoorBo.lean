/- a block's bytes -/
import Derived.Test.YtmkbbekeimnajaaDoorBe
namespace Go.Proofs.YtmkbbekeimnajaaDoor
open Go.RowKit Ds
/-- byte j of the set m -/
def oct (m : Nat → Bool) (j : Nat) : Nat := num 8 fun k => m (8 * j + k)
theorem oct_lt (m : Nat → Bool) (j : Nat) : oct m j < 256 := num_lt 8 _
theorem oct_bit (m : Nat → Bool) (j k : Nat) : (oct m j).testBit k = (decide (k < 8) && m (8 * j + k)) := num_bit 8 _ k
theorem oct_put (m : Nat → Bool) (i : Nat) (b : Bool) (j : Nat) (hj : j ≠ i / 8) : oct (put m i b) j = oct m j := by
  refine num_congr fun k hk => ?_
  unfold put
  rw [if_neg (fun e => hj (by omega))]
theorem oct_add (m : Nat → Bool) (i : Nat) : oct m (i / 8) ||| 2 ^ (i % 8) = oct (put m i true) (i / 8) := by
  refine num_ext (Nat.or_lt_two_pow (num_lt 8 _) (Nat.pow_lt_pow_right (by omega) (by omega))) fun k hk => ?_
  rw [Nat.testBit_or, oct_bit, Nat.testBit_two_pow]
  unfold put
  by_cases h : i % 8 = k
  · rw [if_pos (by omega)]; simp [h]
  · rw [if_neg (by omega)]; simp [h, hk]
def octs (m : Nat → Bool) : List Value := (List.range 32).map fun j => .int .u8 (oct m j : Nat)
theorem octs_len (m : Nat → Bool) : (octs m).length = 32 := by simp [octs]
theorem octs_get (m : Nat → Bool) {j : Nat} (h : j < 32) : (octs m)[j]? = some (.int .u8 (oct m j : Nat)) := by simp [octs, h]
theorem octs_put (m : Nat → Bool) (i : Nat) (b : Bool) : (octs m).toArray.setIfInBounds (i / 8) (.int .u8 (oct (put m i b) (i / 8) : Nat)) = (octs (put m i b)).toArray := by
  rw [List.setIfInBounds_toArray]
  congr 1
  apply List.ext_getElem?
  intro j
  rw [List.getElem?_set]
  by_cases hj : j < 32
  · rw [octs_get _ hj, octs_get _ hj, octs_len]
    by_cases e : i / 8 = j
    · subst e; simp [hj]
    · rw [if_neg e, oct_put m i b j (fun h => e h.symm)]
  · rw [List.getElem?_eq_none (by rw [octs_len]; omega), List.getElem?_eq_none (by rw [octs_len]; omega), octs_len]
    split
    · rw [if_neg (by omega)]
    · rfl
theorem octs_none : (#[.int .u8 0, .int .u8 0, .int .u8 0, .int .u8 0, .int .u8 0, .int .u8 0, .int .u8 0, .int .u8 0, .int .u8 0, .int .u8 0, .int .u8 0, .int .u8 0, .int .u8 0, .int .u8 0, .int .u8 0, .int .u8 0, .int .u8 0, .int .u8 0, .int .u8 0, .int .u8 0, .int .u8 0, .int .u8 0, .int .u8 0, .int .u8 0, .int .u8 0, .int .u8 0, .int .u8 0, .int .u8 0, .int .u8 0, .int .u8 0, .int .u8 0, .int .u8 0] : Array Value) = (octs (fun _ => false)).toArray := rfl
/-- the members below i -/
def below (m : Nat → Bool) (i : Nat) : Nat → Bool := fun k => decide (k < i) && m k
theorem below_zero (m : Nat → Bool) : below m 0 = fun _ => false := by funext k; simp [below]
theorem below_yes {m : Nat → Bool} {i : Nat} (h : m i = true) : put (below m i) i true = below m (i + 1) := by
  funext k
  unfold put below
  by_cases e : k = i
  · subst e; simp [h]
  · rw [if_neg e]
    have : decide (k < i + 1) = decide (k < i) := by
      by_cases h1 : k < i
      · rw [decide_eq_true h1, decide_eq_true (by omega)]
      · rw [decide_eq_false h1, decide_eq_false (by omega)]
    rw [this]
theorem below_no {m : Nat → Bool} {i : Nat} (h : m i = false) : below m (i + 1) = below m i := by
  funext k
  unfold below
  by_cases e : k = i
  · subst e; simp [h]
  · have : decide (k < i + 1) = decide (k < i) := by
      by_cases h1 : k < i
      · rw [decide_eq_true h1, decide_eq_true (by omega)]
      · rw [decide_eq_false h1, decide_eq_false (by omega)]
    rw [this]
theorem octs_congr {m k : Nat → Bool} (h : ∀ i, i < 256 → m i = k i) : octs m = octs k := by
  unfold octs
  refine List.map_congr_left fun j hj => ?_
  have : oct m j = oct k j := num_congr fun i hi => h _ (by simp at hj; omega)
  rw [this]
theorem or_bit8 (m : Nat → Bool) (i : Nat) : bits .or .u8 ((oct m (i / 8) : Nat) : Int) (IntKind.u8.wrap (2 ^ (i % 8))) = ((oct (put m i true) (i / 8) : Nat) : Int) := by
  have hw := oct_lt m (i / 8)
  have hw2 := oct_lt (put m i true) (i / 8)
  have hp : 2 ^ (i % 8) < 2 ^ 8 := Nat.pow_lt_pow_right (by omega) (Nat.mod_lt _ (by omega))
  have e1 : IntKind.u8.wrap ((2 : Int) ^ (i % 8)) = ((2 ^ (i % 8) : Nat) : Int) := by
    have e2 : (2 : Int) ^ (i % 8) = ((2 ^ (i % 8) : Nat) : Int) := by rw [Int.natCast_pow]; rfl
    rw [IntKind.wrap_u8, e2]
    generalize 2 ^ (i % 8) = p at hp ⊢
    omega
  have ha := oct_add m i
  rw [e1]
  generalize 2 ^ (i % 8) = p at hp ha
  have h1 : (BitVec.ofInt 8 ((oct m (i / 8) : Nat) : Int)).toNat = oct m (i / 8) := by
    rw [BitVec.ofInt_natCast, BitVec.toNat_ofNat]; exact Nat.mod_eq_of_lt (by omega)
  have h2 : (BitVec.ofInt 8 ((p : Nat) : Int)).toNat = p := by
    rw [BitVec.ofInt_natCast, BitVec.toNat_ofNat]; exact Nat.mod_eq_of_lt (by omega)
  show IntKind.u8.wrap ((BitVec.ofInt 8 ((oct m (i / 8) : Nat) : Int) ||| BitVec.ofInt 8 (p : Int)).toNat : Int) = _
  rw [BitVec.toNat_or, h1, h2, ha, IntKind.wrap_u8]
  omega
end Go.Proofs.YtmkbbekeimnajaaDoor
