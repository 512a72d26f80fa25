/- the algebra of sums -/
import Derived.Test.YtgebekklkodpaaaDoorLives
import Derived.Test.YtgebekklkodpaaaDoorJoin
namespace Go.Proofs.YtgebekklkodpaaaDoor
open Go.RowKit

theorem xor_back (m s : Nat) : m ^^^ (m ^^^ s) = s := by rw [← Nat.xor_assoc, Nat.xor_self, Nat.zero_xor]
theorem flip_flip (s : Nat) : flip (flip s) = s := by
  obtain ⟨m, hm⟩ : ∃ m, ∀ t, flip t = m ^^^ t := ⟨_, fun _ => rfl⟩
  rw [hm, hm]
  exact xor_back m s
theorem sum_eq (bs : List Nat) : sum bs = flip (Crc.run Crc.polyZip (flip 0) bs) := rfl
theorem ext_eq (s : Nat) (bs : List Nat) : ext s bs = flip (Crc.run Crc.polyZip (flip s) bs) := rfl
theorem ext_sum (xs bs : List Nat) : ext (sum xs) bs = sum (xs ++ bs) := by
  rw [ext_eq, sum_eq, sum_eq, flip_flip, Crc.run_append]
def joinN (a b n : Nat) : Nat := Crc.zeros Crc.polyZip n a ^^^ b
theorem joinN_lt {a b : Nat} (n : Nat) (ha : a < 4294967296) (hb : b < 4294967296) : joinN a b n < 4294967296 := Nat.xor_lt_two_pow (n := 32) (Crc.zeros_lt n (by decide) ha) hb
theorem join_sum (xs bs : List Nat) : joinN (sum xs) (sum bs) bs.length = sum (xs ++ bs) := by
  rw [sum_eq, sum_eq, sum_eq, Crc.run_append]
  generalize hA : Crc.run Crc.polyZip (flip 0) xs = A
  unfold joinN
  obtain ⟨m, hm⟩ : ∃ m, ∀ t, flip t = m ^^^ t := ⟨_, fun _ => rfl⟩
  rw [hm 0, Nat.xor_zero, hm, hm, hm]
  have h := Crc.run_xor Crc.polyZip bs (m ^^^ A) m
  rw [Nat.xor_comm m A, Nat.xor_assoc, Nat.xor_self, Nat.xor_zero] at h
  rw [h, Nat.xor_comm m A, ← Nat.xor_assoc, ← Nat.xor_assoc, Nat.xor_comm m]
theorem join_three (x y z n m : Nat) : joinN x (joinN y z m) (n + m) = joinN (joinN x y n) z m := by
  unfold joinN
  rw [Crc.zeros_add, Crc.zeros_xor, Nat.xor_assoc]
theorem joinN_any (w : World) (Z : Zip w) (a b n : Nat) (ha : a < 4294967296) (hb : b < 4294967296) (hn : n ≤ 9223372036854775807) (hg : 16 < w.heap.size) :
    Calls Tryd.prog 21 #[.int .u32 a, .int .u32 b, .int .i64 n] w fun e w' => e = .returned (.int .u32 (joinN a b n : Nat)) ∧ Below w.heap.size w w' := by
  have h := join_any w Z a b n ha hb (by omega) hg
  rw [Int.toNat_natCast] at h
  exact h
theorem join_step (w0 w : World) (HZ : Hid (Zip w0)) (hg : 16 < w0.heap.size) (HB : Hid (Below w0.heap.size w0 w)) (a b n : Nat) (ha : a < 4294967296) (hb : b < 4294967296) (hn : n ≤ 9223372036854775807) :
    Calls Tryd.prog 21 #[.int .u32 a, .int .u32 b, .int .i64 n] w fun e w' => e = .returned (.int .u32 (joinN a b n : Nat)) ∧ Below w.heap.size w w' :=
  joinN_any w (zip_below HZ.out HB.out hg) a b n ha hb hn (by have := HB.out.size; omega)
end Go.Proofs.YtgebekklkodpaaaDoor
