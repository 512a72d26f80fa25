/- the count of a word's ones -/
import Derived.Test.YtmkbbekeimnajaaDoorBase
import Derived.Test.YtmkbbekeimnajaaDoorPop
import Derived.Laws.Bits64b
namespace Go.Proofs.YtmkbbekeimnajaaDoor
open Go.RowKit
theorem and_le' (a b : Nat) : a &&& b ≤ b := Nat.and_le_right
theorem oc1 (x : Nat) (hx : x < 18446744073709551616) : IntKind.u64.wrap (bits .and .u64 ((x : Int) / 2) 6148914691236517205 + bits .and .u64 (x : Int) 6148914691236517205) = ((Pop.s1 x : Nat) : Int) ∧ Pop.s1 x ≤ 12297829382473034410 := by
  have e1 : (x : Int) / 2 = ((x / 2 : Nat) : Int) := by omega
  have a1 := bits_and_u64_nat (x / 2) 6148914691236517205 (by omega) (by omega)
  have a2 := bits_and_u64_nat x 6148914691236517205 hx (by omega)
  have k1 := and_le' (x / 2) 6148914691236517205
  have k2 := and_le' x 6148914691236517205
  refine ⟨?_, by unfold Pop.s1; omega⟩
  rw [e1, show (6148914691236517205 : Int) = ((6148914691236517205 : Nat) : Int) from rfl, a1, a2, IntKind.wrap_u64]
  unfold Pop.s1
  omega
theorem oc2 (x : Nat) (hx : x ≤ 12297829382473034410) : IntKind.u64.wrap (bits .and .u64 ((x : Int) / 4) 3689348814741910323 + bits .and .u64 (x : Int) 3689348814741910323) = ((Pop.s2 x : Nat) : Int) ∧ Pop.s2 x ≤ 7378697629483820646 := by
  have e1 : (x : Int) / 4 = ((x / 4 : Nat) : Int) := by omega
  have a1 := bits_and_u64_nat (x / 4) 3689348814741910323 (by omega) (by omega)
  have a2 := bits_and_u64_nat x 3689348814741910323 (by omega) (by omega)
  have k1 := and_le' (x / 4) 3689348814741910323
  have k2 := and_le' x 3689348814741910323
  refine ⟨?_, by unfold Pop.s2; omega⟩
  rw [e1, show (3689348814741910323 : Int) = ((3689348814741910323 : Nat) : Int) from rfl, a1, a2, IntKind.wrap_u64]
  unfold Pop.s2
  omega
theorem oc3 (x : Nat) (hx : x ≤ 7378697629483820646) : bits .and .u64 (IntKind.u64.wrap ((x : Int) / 16 + x)) 1085102592571150095 = ((Pop.s3 x : Nat) : Int) ∧ Pop.s3 x ≤ 1085102592571150095 := by
  have e1 : IntKind.u64.wrap ((x : Int) / 16 + x) = ((x / 16 + x : Nat) : Int) := by rw [IntKind.wrap_u64]; omega
  have a1 := bits_and_u64_nat (x / 16 + x) 1085102592571150095 (by omega) (by omega)
  refine ⟨?_, by unfold Pop.s3; exact and_le' _ _⟩
  rw [e1, show (1085102592571150095 : Int) = ((1085102592571150095 : Nat) : Int) from rfl, a1]
  rfl
theorem oc4 (z : Nat) (h : z < 9223372036854775808) : bits .and .i64 (z : Int) 127 = ((z % 128 : Nat) : Int) := by
  have hx : z &&& 127 = z % 128 := Nat.and_two_pow_sub_one_eq_mod z 7
  have h1 : (BitVec.ofInt 64 (z : Int)).toNat = z := by
    rw [BitVec.ofInt_natCast, BitVec.toNat_ofNat]; exact Nat.mod_eq_of_lt (by omega)
  have h2 : (BitVec.ofInt 64 (127 : Int)).toNat = 127 := rfl
  show IntKind.i64.wrap ((BitVec.ofInt 64 (z : Int) &&& BitVec.ofInt 64 (127 : Int)).toNat : Int) = _
  rw [BitVec.toNat_and, h1, h2, IntKind.wrap_i64, hx]
  omega
set_option maxRecDepth 100000 in
theorem ones_any (w : World) (x : Nat) (hx : x < 18446744073709551616) :
    Calls Tryd.prog 45 #[.int .u64 (x : Nat)] w fun e w' => e = .returned (.int .i64 (Go.Lib.onesCount x : Nat)) ∧ w = w' := by
  obtain ⟨o1, b1⟩ := oc1 x hx
  obtain ⟨o2, b2⟩ := oc2 _ b1
  obtain ⟨o3, b3⟩ := oc3 _ b2
  obtain ⟨y, hy, c1, c2, c3, c4⟩ := Pop.pop64 x hx
  have HC4 := hide c4
  obtain ⟨y1, hy1⟩ : ∃ z, Pop.s1 x = z := ⟨_, rfl⟩
  rw [hy1] at o1 o2 hy o3 b3
  obtain ⟨y2, hy2⟩ : ∃ z, Pop.s2 y1 = z := ⟨_, rfl⟩
  rw [hy2] at o2 o3 hy b3
  rw [hy] at o3 b3
  have p1 : IntKind.u64.wrap ((y : Int) + (y : Int) / 256) = ((y + y / 256 : Nat) : Int) := by rw [IntKind.wrap_u64]; omega
  obtain ⟨z1, hz1⟩ : ∃ z, y + y / 256 = z := ⟨_, rfl⟩
  rw [hz1] at p1 c2 c3 HC4
  have p2 : IntKind.u64.wrap ((z1 : Int) + (z1 : Int) / 65536) = ((z1 + z1 / 65536 : Nat) : Int) := by rw [IntKind.wrap_u64]; omega
  obtain ⟨z2, hz2⟩ : ∃ z, z1 + z1 / 65536 = z := ⟨_, rfl⟩
  rw [hz2] at p2 c3 HC4
  have p3 : IntKind.u64.wrap ((z2 : Int) + (z2 : Int) / 4294967296) = ((z2 + z2 / 4294967296 : Nat) : Int) := by rw [IntKind.wrap_u64]; omega
  obtain ⟨z3, hz3⟩ : ∃ z, z2 + z2 / 4294967296 = z := ⟨_, rfl⟩
  rw [hz3] at p3 HC4
  have hb3 : z3 < 9223372036854775808 := by omega
  clear hy hz1 hz2 hz3 hy1 hy2 c1 c2 c3 c4 b1 b2 b3 hx
  go_enter Tryd.func45, Tryd.ntmps45
  go_upto_region 2 with (fail)
  go_upto_region 3 with (fail)
  go_upto_region 4 with (fail)
  go_wp2_with fail
  go_ret
  exact ⟨ret_int (by rw [← HC4.out]; exact oc4 z3 hb3), rfl⟩
end Go.Proofs.YtmkbbekeimnajaaDoor
