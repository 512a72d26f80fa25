/- the lowest one of a word; counts, sizes -/
import Derived.Test.YtmkbbekeimnajaaDoorDs3
import Derived.Lib.TrailingZeros
namespace Go.Proofs.YtmkbbekeimnajaaDoor
open Go.RowKit Ds
/-- the library's table lies in its variable -/
def DeBr (w : World) : Prop := ∀ j, j < 64 → w.cell? ⟨15, j, none⟩ = some (.int .u8 (Go.Lib.deBruijn64tab.getD j 0 : Nat))
theorem debr_below {B : Nat} {w w' : World} (h : DeBr w) (hb : Below B w w') (hB : 15 < B) : DeBr w' := fun j hj => (hb.cell (p := ⟨15, j, none⟩) hB).trans (h j hj)
theorem low_key (x a : Nat) (hx : x < 18446744073709551616) (hx0 : x ≠ 0) (hlow : x &&& (18446744073709551616 - x) = a) :
    IntKind.u64.wrap (bits .and .u64 (x : Int) (IntKind.u64.wrap (-(x : Int))) * 285870213051353865) / 288230376151711744 = ((a * 285870213051353865 % 18446744073709551616 / 288230376151711744 : Nat) : Int) := by
  have e1 : IntKind.u64.wrap (-(x : Int)) = ((18446744073709551616 - x : Nat) : Int) := by rw [IntKind.wrap_u64]; omega
  rw [e1, bits_and_u64_nat x _ hx (by omega), hlow, IntKind.wrap_u64]
  omega
set_option maxRecDepth 100000 in
theorem ctz_any (w : World) (x : Nat) (hx : x < 18446744073709551616) (hx0 : x ≠ 0) (hT : DeBr w) :
    Calls Tryd.prog 46 #[.int .u64 (x : Nat)] w fun e w' => e = .returned (.int .i64 (Go.Lib.ctz 64 x : Nat)) ∧ w = w' := by
  obtain ⟨hlow, hk⟩ := Go.Lib.lowest_bit 64 x hx0 hx
  obtain ⟨hi, htab⟩ := Go.Lib.deBruijn64_at _ hk
  have key := low_key x _ hx hx0 hlow
  have hx0i : ((x : Int) == 0) = false := by simp; omega
  obtain ⟨k, hkk⟩ : ∃ k, Go.Lib.ctz 64 x = k := ⟨_, rfl⟩
  rw [hkk] at key hk hi htab ⊢
  obtain ⟨idx, hidx⟩ : ∃ idx, 2 ^ k * 285870213051353865 % 18446744073709551616 / 288230376151711744 = idx := ⟨_, rfl⟩
  rw [hidx] at key hi htab
  have hcell := hT idx hi
  rw [htab] at hcell
  clear hlow hkk hidx htab hT hx hx0
  go_enter Tryd.func46, Tryd.ntmps46
  go_wp2_with (simp only [key])
  go_ret
  exact ⟨rfl, rfl⟩
set_option maxRecDepth 100000 in
theorem len_any (w : World) {S g cap n : Nat} {m : Nat → Bool} (h : SetAt w S g cap n m) :
    Calls Tryd.prog 32 #[.pointer (some ⟨S, 0, none⟩)] w fun e w' => e = .returned (.int .i64 (n : Nat)) ∧ w = w' := by
  obtain ⟨c0, c1, c2⟩ := cells3 h.hd
  clear h
  go_enter Tryd.func32, Tryd.ntmps32
  go_wp2_with fail
  go_ret
  exact ⟨rfl, rfl⟩
set_option maxRecDepth 100000 in
theorem count_any (w : World) {S g cap n : Nat} {m : Nat → Bool} (h : SetAt w S g cap n m) :
    Calls Tryd.prog 17 #[.pointer (some ⟨S, 0, none⟩)] w fun e w' => e = .returned (.int .i64 (cnt m n : Nat)) ∧ w = w' := by
  obtain ⟨c0, c1, c2⟩ := cells3 h.hd
  clear h
  go_enter Tryd.func17, Tryd.ntmps17
  go_wp2_with fail
  go_ret
  exact ⟨rfl, rfl⟩
end Go.Proofs.YtmkbbekeimnajaaDoor
