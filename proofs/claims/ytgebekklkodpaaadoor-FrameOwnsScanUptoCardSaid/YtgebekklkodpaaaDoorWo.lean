/- frame.word -/
import Derived.Test.YtgebekklkodpaaaDoorRefNum
namespace Go.Proofs.YtgebekklkodpaaaDoor
open Go.RowKit

/-- the word that four bytes make -/
def wordOf (a b c d : Nat) : Nat := a + b * 256 + c * 65536 + d * 16777216
theorem word_bytes (v : Nat) (h : v < 4294967296) : wordOf (v % 256) (v / 256 % 256) (v / 65536 % 256) (v / 16777216 % 256) = v := by
  unfold wordOf
  omega
theorem wordOf_lt {a b c d : Nat} (ha : a < 256) (hb : b < 256) (hc : c < 256) (hd : d < 256) : wordOf a b c d < 4294967296 := by unfold wordOf; omega

theorem or_step (a b i : Nat) (ha : a < 2 ^ i) (hi : b * 2 ^ i < 4294967296) (hai : a < 4294967296) : bits .or .u32 (a : Int) ((b : Int) * (2 ^ i : Nat)) = ((a + b * 2 ^ i : Nat) : Int) := by
  have e : (b : Int) * ((2 ^ i : Nat) : Int) = ((b * 2 ^ i : Nat) : Int) := by simp
  rw [e, u32_or_nat a (b * 2 ^ i) hai hi]
  congr 1
  have h := Nat.two_pow_add_eq_or_of_lt ha b
  rw [Nat.mul_comm, Nat.add_comm] at h
  rw [h, Nat.or_comm]
theorem word_or (x0 x1 x2 x3 : Nat) (y0 : x0 < 256) (y1 : x1 < 256) (y2 : x2 < 256) (y3 : x3 < 256) :
    bits .or .u32 (bits .or .u32 (bits .or .u32 (x0 : Int) ((x1 : Int) * 256)) ((x2 : Int) * 65536)) ((x3 : Int) * 16777216) = ((wordOf x0 x1 x2 x3 : Nat) : Int) := by
  have h1 : bits .or .u32 (x0 : Int) ((x1 : Int) * 256) = ((x0 + x1 * 256 : Nat) : Int) := or_step x0 x1 8 y0 (by omega) (by omega)
  have h2 : bits .or .u32 ((x0 + x1 * 256 : Nat) : Int) ((x2 : Int) * 65536) = ((x0 + x1 * 256 + x2 * 65536 : Nat) : Int) := or_step _ x2 16 (by omega) (by omega) (by omega)
  have h3 : bits .or .u32 ((x0 + x1 * 256 + x2 * 65536 : Nat) : Int) ((x3 : Int) * 16777216) = ((x0 + x1 * 256 + x2 * 65536 + x3 * 16777216 : Nat) : Int) := or_step _ x3 24 (by omega) (by omega) (by omega)
  rw [h1, h2, h3]
  rfl
set_option maxRecDepth 100000 in
set_option maxHeartbeats 1000000 in
theorem word_any (w : World) (v : Value) (bs : List Nat) (hs : Src w v bs) (x0 x1 x2 x3 : Nat) (h0 : bs[0]? = some x0) (h1 : bs[1]? = some x1) (h2 : bs[2]? = some x2) (h3 : bs[3]? = some x3) :
    Calls Tryd.prog 72 #[v] w fun e w' => e = .returned (.int .u32 (wordOf x0 x1 x2 x3 : Nat)) ∧ ∃ q, w' = w.drewN q := by
  obtain ⟨ao, cap, rfl⟩ := src_form hs
  have hl : 4 ≤ bs.length := by have := (List.getElem?_eq_some_iff.1 h3).1; omega
  obtain ⟨ad, rfl, c0⟩ := src_cell hs h0
  obtain ⟨ad1, e1, c1⟩ := src_cell hs h1
  obtain ⟨ad2, e2, c2⟩ := src_cell hs h2
  obtain ⟨ad3, e3, c3⟩ := src_cell hs h3
  obtain rfl := Option.some.inj e1
  obtain rfl := Option.some.inj e2
  obtain rfl := Option.some.inj e3
  have y0 := hs.1 x0 (List.mem_of_getElem? h0)
  have y1 := hs.1 x1 (List.mem_of_getElem? h1)
  have y2 := hs.1 x2 (List.mem_of_getElem? h2)
  have y3 := hs.1 x3 (List.mem_of_getElem? h3)
  rw [Addr.add_zero'] at c0
  have d1 : w.cell? { block := ad.block, off := ad.off + 1 } = some (.int .u8 (x1 : Int)) := c1
  have d2 : w.cell? { block := ad.block, off := ad.off + 2 } = some (.int .u8 (x2 : Int)) := c2
  have d3 : w.cell? { block := ad.block, off := ad.off + 3 } = some (.int .u8 (x3 : Int)) := c3
  clear hs h0 h1 h2 h3 e1 e2 e3 c1 c2 c3
  go_enter Tryd.func72, Tryd.ntmps72
  go_wp2_with fail
  go_quiet (fail)
  have hval := word_or x0 x1 x2 x3 y0 y1 y2 y3
  go_wp2
  go_ret
  exact ⟨by rw [← hval]; rfl, _, rfl⟩
end Go.Proofs.YtgebekklkodpaaaDoor
