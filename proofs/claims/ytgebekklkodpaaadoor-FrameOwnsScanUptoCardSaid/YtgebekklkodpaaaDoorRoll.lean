/- roll -/
import Derived.Test.YtgebekklkodpaaaDoorMem
import Derived.Test.YtgebekklkodpaaaDoorCrc
namespace Go.Proofs.YtgebekklkodpaaaDoor
open Go.RowKit


/-- bytes in memory -/
def BytesAt (w : World) (ao : Option Addr) (bs : List Nat) : Prop :=
  (∀ x ∈ bs, x < 256) ∧ (bs = [] ∨ ∃ b off : Nat, ao = some ⟨b, off, none⟩ ∧ ∀ k x : Nat, bs[k]? = some x → w.cell? ⟨b, off + k, none⟩ = some (.int .u8 x))
/-- the table of the sum -/
def Zip (w : World) : Prop := ∀ k : Nat, k < 16 → w.cell? ⟨16, k, none⟩ = some (.int .u32 (Crc.zipTable.getD k 0 : Nat))

theorem zip_lt (k : Nat) (h : k < 16) : Crc.zipTable.getD k 0 < 4294967296 := by
  rw [Crc.zip_tab k h]
  exact Crc.step4_lt (by decide) (by omega)

/-- what one nibble's step computes -/
theorem zip_step (w : World) (Z : Zip w) (s : Nat) (hs : s < 4294967296) :
    ∃ t : Nat, t < 4294967296 ∧ w.cell? ⟨16, s % 16, none⟩ = some (.int .u32 t) ∧ bits .and .u32 (s : Int) 15 = ((s % 16 : Nat) : Int) ∧
      bits .xor .u32 ((s : Int) / 16) (t : Int) = (Crc.step4 Crc.polyZip s : Nat) ∧ Crc.step4 Crc.polyZip s < 4294967296 := by
  refine ⟨Crc.zipTable.getD (s % 16) 0, zip_lt _ (by omega), Z _ (by omega), ?_, ?_, Crc.step4_lt (by decide) hs⟩
  · have := u32_and_nat s 15 hs (by omega)
    rw [nat_mask4] at this
    exact this
  · have h := u32_xor_nat (s / 16) (Crc.zipTable.getD (s % 16) 0) (by omega) (zip_lt _ (by omega))
    rw [Crc.zip_step4] at h
    rw [← h]
    simp

theorem run_take (p r : Nat) (bs : List Nat) (k x : Nat) (h : bs[k]? = some x) : Crc.run p r (bs.take (k + 1)) = Crc.byte p (Crc.run p r (bs.take k)) x := by
  rw [List.take_add_one, h, Crc.run_append]; rfl

set_option maxHeartbeats 400000 in
theorem roll_some (w : World) (Z : Zip w) (r : Nat) (hr : r < 4294967296) (b off cap : Nat) (bs : List Nat) (hb : ∀ x ∈ bs, x < 256) (hl : bs.length ≤ 9223372036854775807)
    (hc : ∀ k x : Nat, bs[k]? = some x → w.cell? ⟨b, off + k, none⟩ = some (.int .u8 x)) :
    Calls Tryd.prog 51 #[.int .u32 r, .slice (some ⟨b, off, none⟩) bs.length cap] w fun e w' => e = .returned (.int .u32 (Crc.run Crc.polyZip r bs : Nat)) ∧ w = w' := by
  have HC := hide hc
  clear hc
  go_enter Tryd.func51, Tryd.ntmps51
  go_wp2
  go_loop [0, 9] (fun v i => ∃ k s : Nat, k ≤ bs.length ∧ s < 4294967296 ∧ i = .int .i64 k ∧ v = .int .u32 s ∧ s = Crc.run Crc.polyZip r (bs.take k)) (fun _ i => bs.length - (intOf i).toNat)
  case atStart => exact ⟨0, r, Nat.zero_le _, hr, rfl, rfl, rfl⟩
  case round =>
    obtain ⟨k, s, hk, hs, rfl, rfl, hS⟩ := hrel
    have HS := hide hS
    clear hS
    by_cases hlt : k < bs.length
    · obtain ⟨x, hx⟩ : ∃ x, bs[k]? = some x := ⟨_, List.getElem?_eq_getElem hlt⟩
      have hx256 : x < 256 := hb x (List.mem_of_getElem? hx)
      have hcell := HC.out k x hx
      have HX := hide hx
      clear hx
      have e1 := u32_xor_nat s x hs (by omega)
      have l1 : s ^^^ x < 4294967296 := Nat.xor_lt_two_pow (n := 32) hs (by omega)
      obtain ⟨s1, hs1⟩ : ∃ s1, s1 = s ^^^ x := ⟨_, rfl⟩
      rw [← hs1] at e1 l1
      have HS1 := hide hs1
      clear hs1
      obtain ⟨t1, ht1, hct1, ea1, ex1, l2⟩ := zip_step w Z s1 l1
      generalize hs2 : Crc.step4 Crc.polyZip s1 = s2 at ex1 l2
      have HS2 := hide hs2
      clear hs2
      obtain ⟨t2, ht2, hct2, ea2, ex2, l3⟩ := zip_step w Z s2 l2
      generalize hs3 : Crc.step4 Crc.polyZip s2 = s3 at ex2 l3
      have HS3 := hide hs3
      clear hs3
      go_wp2
      go_round
      case rel => exact ⟨k + 1, s3, hlt, l3, by go_num, rfl, by rw [run_take _ _ _ _ _ HX.out, ← HS.out, Crc.byte, ← HS1.out, Crc.step8, HS2.out, HS3.out]⟩
      case measure => simp [intOf]; omega
    · go_wp2
      go_ret
      exact ⟨ret_int (by rw [HS.out, List.take_of_length_le (by omega)]), rfl⟩

theorem roll_none (w : World) (r : Nat) (ao : Option Addr) (cap : Nat) :
    Calls Tryd.prog 51 #[.int .u32 r, .slice ao 0 cap] w fun e w' => e = .returned (.int .u32 r) ∧ w = w' := by
  go_enter Tryd.func51, Tryd.ntmps51
  go_wp2
  refine wp_loop_rounds 1 ?_
  rw [rounds_succ]
  go_wp2
  go_ret
  exact ⟨rfl, rfl⟩

theorem roll_any (w : World) (Z : Zip w) (r : Nat) (hr : r < 4294967296) (ao : Option Addr) (cap : Nat) (bs : List Nat) (hB : BytesAt w ao bs) (hl : bs.length ≤ 9223372036854775807) :
    Calls Tryd.prog 51 #[.int .u32 r, .slice ao bs.length cap] w fun e w' => e = .returned (.int .u32 (Crc.run Crc.polyZip r bs : Nat)) ∧ w = w' := by
  rcases hB with ⟨h1, rfl | ⟨b, off, rfl, h2⟩⟩
  · exact roll_none w r ao cap
  · exact roll_some w Z r hr b off cap bs h1 hl h2
end Go.Proofs.YtgebekklkodpaaaDoor
