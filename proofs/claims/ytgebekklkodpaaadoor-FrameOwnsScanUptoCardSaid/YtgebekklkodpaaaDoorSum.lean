/- the sums, program and reference -/
import Derived.Test.YtgebekklkodpaaaDoorRef
import Derived.Test.YtgebekklkodpaaaDoorWr
namespace Go.Proofs.YtgebekklkodpaaaDoor
open Go.RowKit

/-- all bits turned -/
def flip (r : Nat) : Nat := 4294967295 ^^^ r
theorem flip_lt {r : Nat} (h : r < 4294967296) : flip r < 4294967296 := Nat.xor_lt_two_pow (n := 32) (by omega) h
theorem flip_bits (s : Nat) (hs : s < 4294967296) : bits .xor .u32 IntKind.u32.max (s : Int) = ((flip s : Nat) : Int) := u32_xor_nat 4294967295 s (by omega) hs
/-- the sum of a list behind a sum -/
def ext (s : Nat) (bs : List Nat) : Nat := flip (Crc.run Crc.polyZip (flip s) bs)
def sum (bs : List Nat) : Nat := ext 0 bs
def seal_ (bs : List Nat) : Nat := flip (Crc.run Crc.polySeal 4294967295 bs)
theorem ext_lt {s : Nat} {bs : List Nat} (hs : s < 4294967296) (h : ∀ x ∈ bs, x < 256) : ext s bs < 4294967296 := flip_lt (Crc.run_lt (by decide) (flip_lt hs) h)
theorem sum_lt {bs : List Nat} (h : ∀ x ∈ bs, x < 256) : sum bs < 4294967296 := ext_lt (by omega) h
theorem seal_lt' {bs : List Nat} (h : ∀ x ∈ bs, x < 256) : seal_ bs < 4294967296 := flip_lt (Crc.run_lt (by decide) (by omega) h)

theorem extend_any (w : World) (Z : Zip w) (s : Nat) (hs : s < 4294967296) (v : Value) (bs : List Nat) (hv : Src w v bs) (hl : bs.length ≤ 9223372036854775807) :
    Calls Tryd.prog 31 #[.int .u32 s, v] w fun e w' => e = .returned (.int .u32 (ext s bs : Nat)) ∧ w = w' := by
  have hr : Crc.run Crc.polyZip (flip s) bs < 4294967296 := Crc.run_lt (by decide) (flip_lt hs) hv.1
  obtain ⟨ao, cap, rfl, hb⟩ := src_bytes hv
  clear hv
  have e1 := flip_bits s hs
  have l1 := flip_lt hs
  have HE := hide (show ext s bs = flip (Crc.run Crc.polyZip (flip s) bs) from rfl)
  generalize flip s = s1 at e1 l1 hr HE
  have HR := roll_any w Z s1 l1 ao cap bs hb hl
  have HR' := hide HR
  clear HR
  have e2 := flip_bits _ hr
  generalize Crc.run Crc.polyZip s1 bs = s2 at e2 hr HE HR'
  generalize flip s2 = s3 at e2 HE
  have hsg : IntKind.u32.signed = false := rfl
  go_enter Tryd.func31, Tryd.ntmps31
  go_wp2_with (go_at_call 51; refine HR'.out.mono ?_; rintro e w' ⟨rfl, rfl⟩)
  go_ret
  exact ⟨ret_int (by rw [HE.out]), rfl⟩

theorem sum_any (w : World) (Z : Zip w) (v : Value) (bs : List Nat) (hv : Src w v bs) (hl : bs.length ≤ 9223372036854775807) :
    Calls Tryd.prog 28 #[v] w fun e w' => e = .returned (.int .u32 (sum bs : Nat)) ∧ w = w' := by
  have HR : Calls Tryd.prog 31 #[.int .u32 0, v] w fun e w' => e = .returned (.int .u32 (sum bs : Nat)) ∧ w = w' := extend_any w Z 0 (by omega) v bs hv hl
  have HR' := hide HR
  clear HR hv
  generalize sum bs = s at HR'
  go_enter Tryd.func28, Tryd.ntmps28
  go_wp2_with (go_at_call 31; refine HR'.out.mono ?_; rintro e w' ⟨rfl, rfl⟩)
  go_ret
  exact ⟨rfl, rfl⟩

/-- the table of the seal -/
def SealT (w : World) : Prop := ∀ k : Nat, k < 16 → w.cell? ⟨15, k, none⟩ = some (.int .u32 (Crc.sealTable.getD k 0 : Nat))

theorem seal_lt (k : Nat) (h : k < 16) : Crc.sealTable.getD k 0 < 4294967296 := by
  rw [Crc.seal_tab k h]
  exact Crc.step4_lt (by decide) (by omega)

/-- what one nibble's step computes -/
theorem seal_step (w : World) (Z : SealT w) (s : Nat) (hs : s < 4294967296) :
    ∃ t : Nat, t < 4294967296 ∧ w.cell? ⟨15, s % 16, none⟩ = some (.int .u32 t) ∧ bits .and .u32 (s : Int) 15 = ((s % 16 : Nat) : Int) ∧
      bits .xor .u32 ((s : Int) / 16) (t : Int) = (Crc.step4 Crc.polySeal s : Nat) ∧ Crc.step4 Crc.polySeal s < 4294967296 := by
  refine ⟨Crc.sealTable.getD (s % 16) 0, seal_lt _ (by omega), Z _ (by omega), ?_, ?_, Crc.step4_lt (by decide) hs⟩
  · have := u32_and_nat s 15 hs (by omega)
    rw [nat_mask4] at this
    exact this
  · have h := u32_xor_nat (s / 16) (Crc.sealTable.getD (s % 16) 0) (by omega) (seal_lt _ (by omega))
    rw [Crc.seal_step4] at h
    rw [← h]
    simp

set_option maxHeartbeats 400000 in
theorem seal_some (w : World) (Z : SealT w) (b off cap : Nat) (bs : List Nat) (hb : ∀ x ∈ bs, x < 256) (hl : bs.length ≤ 9223372036854775807)
    (hc : ∀ k x : Nat, bs[k]? = some x → w.cell? ⟨b, off + k, none⟩ = some (.int .u8 x)) :
    Calls Tryd.prog 27 #[.slice (some ⟨b, off, none⟩) bs.length cap] w fun e w' => e = .returned (.int .u32 (seal_ bs : Nat)) ∧ w = w' := by
  have HC := hide hc
  clear hc
  go_enter Tryd.func27, Tryd.ntmps27
  go_wp2
  go_loop [3, 8] (fun v i => ∃ k s : Nat, k ≤ bs.length ∧ s < 4294967296 ∧ i = .int .i64 k ∧ v = .int .u32 s ∧ s = Crc.run Crc.polySeal 4294967295 (bs.take k)) (fun _ i => bs.length - (intOf i).toNat)
  case atStart => exact ⟨0, 4294967295, Nat.zero_le _, by omega, rfl, rfl, rfl⟩
  case round =>
    obtain ⟨k, s, hk, hs, rfl, rfl, hS⟩ := hrel
    have HS := hide hS
    clear hS
    by_cases hlt : k < bs.length
    · obtain ⟨x, hx⟩ : ∃ x, bs[k]? = some x := ⟨_, List.getElem?_eq_getElem hlt⟩
      have hx256 : x < 256 := hb x (List.mem_of_getElem? hx)
      have hcell := HC.out k x hx
      have HX := hide hx
      clear hx
      have e1 := u32_xor_nat s x hs (by omega)
      have l1 : s ^^^ x < 4294967296 := Nat.xor_lt_two_pow (n := 32) hs (by omega)
      obtain ⟨s1, hs1⟩ : ∃ s1, s1 = s ^^^ x := ⟨_, rfl⟩
      rw [← hs1] at e1 l1
      have HS1 := hide hs1
      clear hs1
      obtain ⟨t1, ht1, hct1, ea1, ex1, l2⟩ := seal_step w Z s1 l1
      generalize hs2 : Crc.step4 Crc.polySeal s1 = s2 at ex1 l2
      have HS2 := hide hs2
      clear hs2
      obtain ⟨t2, ht2, hct2, ea2, ex2, l3⟩ := seal_step w Z s2 l2
      generalize hs3 : Crc.step4 Crc.polySeal s2 = s3 at ex2 l3
      have HS3 := hide hs3
      clear hs3
      go_wp2
      go_round
      case rel => exact ⟨k + 1, s3, hlt, l3, by go_num, rfl, by rw [run_take _ _ _ _ _ HX.out, ← HS.out, Crc.byte, ← HS1.out, Crc.step8, HS2.out, HS3.out]⟩
      case measure => simp [intOf]; omega
    · go_wp2
      go_ret
      exact ⟨ret_int (by rw [flip_bits s hs, HS.out, List.take_of_length_le (by omega)]; rfl), rfl⟩

theorem seal_none (w : World) (ao : Option Addr) (cap : Nat) :
    Calls Tryd.prog 27 #[.slice ao 0 cap] w fun e w' => e = .returned (.int .u32 0) ∧ w = w' := by
  go_enter Tryd.func27, Tryd.ntmps27
  go_wp2
  refine wp_loop_rounds 1 ?_
  rw [rounds_succ]
  go_wp2
  go_ret
  exact ⟨rfl, rfl⟩

theorem seal_any (w : World) (Z : SealT w) (v : Value) (bs : List Nat) (hv : Src w v bs) (hl : bs.length ≤ 9223372036854775807) :
    Calls Tryd.prog 27 #[v] w fun e w' => e = .returned (.int .u32 (seal_ bs : Nat)) ∧ w = w' := by
  obtain ⟨ao, cap, rfl, h1, rfl | ⟨b, off, rfl, h2⟩⟩ := src_bytes hv
  · exact seal_none w ao cap
  · exact seal_some w Z b off cap bs h1 hl h2

/-! the reference's -/
set_option maxHeartbeats 400000 in
theorem ref_run_some (w : World) (p r : Nat) (hp : p < 4294967296) (hr : r < 4294967296) (b off cap : Nat) (bs : List Nat) (hb : ∀ x ∈ bs, x < 256) (hl : bs.length ≤ 9223372036854775807)
    (hc : ∀ k x : Nat, bs[k]? = some x → w.cell? ⟨b, off + k, none⟩ = some (.int .u8 x)) :
    Calls Tryd.prog 66 #[.int .u32 r, .slice (some ⟨b, off, none⟩) bs.length cap, .int .u32 p] w fun e w' => e = .returned (.int .u32 (Crc.run p r bs : Nat)) ∧ w = w' := by
  have HC := hide hc
  clear hc
  go_enter Tryd.func66, Tryd.ntmps66
  go_wp2
  go_loop [0, 11] (fun v i => ∃ k s : Nat, k ≤ bs.length ∧ s < 4294967296 ∧ i = .int .i64 k ∧ v = .int .u32 s ∧ s = Crc.run p r (bs.take k)) (fun _ i => bs.length - (intOf i).toNat)
  case atStart => exact ⟨0, r, Nat.zero_le _, hr, rfl, rfl, rfl⟩
  case round =>
    obtain ⟨k, s, hk, hs, rfl, rfl, hS⟩ := hrel
    have HS := hide hS
    clear hS
    by_cases hlt : k < bs.length
    · obtain ⟨x, hx⟩ : ∃ x, bs[k]? = some x := ⟨_, List.getElem?_eq_getElem hlt⟩
      have hx256 : x < 256 := hb x (List.mem_of_getElem? hx)
      have hcell := HC.out k x hx
      have HX := hide hx
      clear hx
      have l2 : Crc.byte p s x < 4294967296 := Crc.byte_lt hp hs hx256
      go_wp2_with (go_at_call 54; refine (ref_step w p s x hp hs hx256).mono ?_; rintro e w' ⟨rfl, rfl⟩)
      go_round
      case rel => exact ⟨k + 1, _, hlt, l2, by go_num, rfl, by rw [run_take _ _ _ _ _ HX.out, ← HS.out]⟩
      case measure => simp [intOf]; omega
    · go_wp2
      go_ret
      exact ⟨ret_int (by rw [HS.out, List.take_of_length_le (by omega)]), rfl⟩
theorem ref_run_none (w : World) (p r : Nat) (ao : Option Addr) (cap : Nat) :
    Calls Tryd.prog 66 #[.int .u32 r, .slice ao 0 cap, .int .u32 p] w fun e w' => e = .returned (.int .u32 r) ∧ w = w' := by
  go_enter Tryd.func66, Tryd.ntmps66
  go_wp2
  refine wp_loop_rounds 1 ?_
  rw [rounds_succ]
  go_wp2
  go_ret
  exact ⟨rfl, rfl⟩
theorem ref_run (w : World) (p r : Nat) (hp : p < 4294967296) (hr : r < 4294967296) (v : Value) (bs : List Nat) (hv : Src w v bs) (hl : bs.length ≤ 9223372036854775807) :
    Calls Tryd.prog 66 #[.int .u32 r, v, .int .u32 p] w fun e w' => e = .returned (.int .u32 (Crc.run p r bs : Nat)) ∧ w = w' := by
  obtain ⟨ao, cap, rfl, h1, rfl | ⟨b, off, rfl, h2⟩⟩ := src_bytes hv
  · exact ref_run_none w p r ao cap
  · exact ref_run_some w p r hp hr b off cap bs h1 hl h2

theorem ref_extend (w : World) (s : Nat) (hs : s < 4294967296) (v : Value) (bs : List Nat) (hv : Src w v bs) (hl : bs.length ≤ 9223372036854775807) :
    Calls Tryd.prog 32 #[.int .u32 s, v] w fun e w' => e = .returned (.int .u32 (ext s bs : Nat)) ∧ w = w' := by
  have hr : Crc.run Crc.polyZip (flip s) bs < 4294967296 := Crc.run_lt (by decide) (flip_lt hs) hv.1
  have e1 := flip_bits s hs
  have l1 := flip_lt hs
  have HE := hide (show ext s bs = flip (Crc.run Crc.polyZip (flip s) bs) from rfl)
  generalize flip s = s1 at e1 l1 hr HE
  have HR : Calls Tryd.prog 66 #[.int .u32 s1, v, .int .u32 3988292384] w fun e w' => e = .returned (.int .u32 (Crc.run Crc.polyZip s1 bs : Nat)) ∧ w = w' := ref_run w Crc.polyZip s1 (by decide) l1 v bs hv hl
  have HR' := hide HR
  clear HR hv
  have e2 := flip_bits _ hr
  generalize Crc.run Crc.polyZip s1 bs = s2 at e2 hr HE HR'
  generalize flip s2 = s3 at e2 HE
  have hsg : IntKind.u32.signed = false := rfl
  go_enter Tryd.func32, Tryd.ntmps32
  go_wp2_with (go_at_call 66; refine HR'.out.mono ?_; rintro e w' ⟨rfl, rfl⟩)
  go_ret
  exact ⟨ret_int (by rw [HE.out]), rfl⟩
theorem ref_sum (w : World) (v : Value) (bs : List Nat) (hv : Src w v bs) (hl : bs.length ≤ 9223372036854775807) :
    Calls Tryd.prog 29 #[v] w fun e w' => e = .returned (.int .u32 (sum bs : Nat)) ∧ w = w' := by
  have HR : Calls Tryd.prog 32 #[.int .u32 0, v] w fun e w' => e = .returned (.int .u32 (sum bs : Nat)) ∧ w = w' := ref_extend w 0 (by omega) v bs hv hl
  have HR' := hide HR
  clear HR hv
  generalize sum bs = s at HR'
  go_enter Tryd.func29, Tryd.ntmps29
  go_wp2_with (go_at_call 32; refine HR'.out.mono ?_; rintro e w' ⟨rfl, rfl⟩)
  go_ret
  exact ⟨rfl, rfl⟩
theorem ref_seal (w : World) (v : Value) (bs : List Nat) (hv : Src w v bs) (hl : bs.length ≤ 9223372036854775807) :
    Calls Tryd.prog 30 #[v] w fun e w' => e = .returned (.int .u32 (seal_ bs : Nat)) ∧ w = w' := by
  have hr : Crc.run Crc.polySeal 4294967295 bs < 4294967296 := Crc.run_lt (by decide) (by omega) hv.1
  have HE := hide (show seal_ bs = flip (Crc.run Crc.polySeal 4294967295 bs) from rfl)
  have HR : Calls Tryd.prog 66 #[.int .u32 4294967295, v, .int .u32 2197175160] w fun e w' => e = .returned (.int .u32 (Crc.run Crc.polySeal 4294967295 bs : Nat)) ∧ w = w' := ref_run w Crc.polySeal 4294967295 (by decide) (by omega) v bs hv hl
  have HR' := hide HR
  clear HR hv
  have e2 := flip_bits _ hr
  generalize Crc.run Crc.polySeal 4294967295 bs = s2 at e2 hr HE HR'
  generalize flip s2 = s3 at e2 HE
  go_enter Tryd.func30, Tryd.ntmps30
  go_wp2_with (go_at_call 66; refine HR'.out.mono ?_; rintro e w' ⟨rfl, rfl⟩)
  go_ret
  exact ⟨ret_int (by rw [HE.out]), rfl⟩
end Go.Proofs.YtgebekklkodpaaaDoor
