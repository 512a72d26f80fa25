/- codec.Writer: Word32 -/
import Derived.Test.YtgebekklkodpaaaDoorWr
import Derived.Deep.RegionLaw
import Derived.Deep.AppendLies
namespace Go.Proofs.YtgebekklkodpaaaDoor
open Go.RowKit

theorem grown_undrew {w w1 : World} {r : Option Nat} (h : w.drew.grownBy w1 r) : w.grownBy w1 r := ⟨h.os, h.tape, h.output, h.size, h.block⟩
theorem one_one (z : Nat) : ∀ u ∈ [Value.int .u8 (z : Int)], u.oneCell' = true := by
  intro u hu
  simp at hu
  subst hu
  rfl

set_option maxRecDepth 100000 in
set_option maxHeartbeats 2000000 in
theorem writer_word (w : World) (B p x : Nat) (bs : List Nat) (hW : WriterIs w B p bs) (hlen : bs.length + 4 ≤ 140737488355328) :
    Calls Tryd.prog 61 #[.pointer (some ⟨p, 0, none⟩), .int .u32 x] w fun e w' => e = .returned (.tuple #[]) ∧ WriterIs w' B p (bs ++ Uv.word x) ∧ Below B w w' := by
  obtain ⟨i0, hi, hz0, hz1, hz2⟩ := info_parts info5
  have HW0 := hide hW
  have HL := hide hlen
  clear hW
  go_enter Tryd.func61, Tryd.ntmps61
  go_wp2
  go_loopw [5] (fun c wr => ∃ i : Nat, i ≤ 4 ∧ c = .int .i64 i ∧ WriterIs wr B p (bs ++ (Uv.word x).take i) ∧ Below B w wr) (fun c _ => 4 - (intOf c).toNat)
  case atStart => exact ⟨0, by omega, rfl, by simpa using HW0.out, Below.refl _ _⟩
  case round =>
    obtain ⟨i, hi4, rfl, ⟨hB, v, hp, hv⟩, hb⟩ := hrel
    have hcl : (bs ++ (Uv.word x).take i).length ≤ bs.length + i := by simp; omega
    obtain ⟨cur, hcur⟩ : ∃ cur, cur = bs ++ (Uv.word x).take i := ⟨_, rfl⟩
    rw [← hcur] at hv hcl
    have HCU := hide hcur
    clear hcur
    have hlt := heap_lt hp
    have hc := cell_of_one hp
    have hcA := fun o => cell_of_one (heap_old hp o)
    have HP := hide hp
    clear hp
    have q0 : IntKind.i64.wrap 0 = 0 := by decide
    have q1 : IntKind.i64.wrap 8 = 8 := by decide
    have q2 : IntKind.i64.wrap 16 = 16 := by decide
    have q3 : IntKind.i64.wrap 24 = 24 := by decide
    by_cases h4 : i < 4
    · have HL1 := hide (show cur.length + 1 ≤ maxLen by have := HL.out; simp [maxLen]; omega)
      have HL2 := hide (show (cur.length + 1) * 1 ≤ 140737488355328 by have := HL.out; omega)
      have hcase : i = 0 ∨ i = 1 ∨ i = 2 ∨ i = 3 := by omega
      rcases hcase with rfl | rfl | rfl | rfl
      · have hz : IntKind.u8.wrap (x : Int) = ((x % 256 : Nat) : Int) := by rw [IntKind.wrap_u8']; simp
        obtain ⟨z, hzz⟩ : ∃ z, z = x % 256 := ⟨_, rfl⟩
        rw [← hzz] at hz
        have HZ := hide hzz
        clear hzz
        go_wp2
        go_region_law (first
          | (refine step_append_lies _ rfl (.tmp 12) (.tmp 18) 25 rfl B 5 i0 (.int .u8 0) 1 1 Tryd.underlying25 hi hz0 hz1 hz2 rfl (by decide) v _ _ rfl (hv.alloc _) ⟨wr.heap.size, 0, none⟩ 1 1 [.int .u8 (z : Int)] rfl rfl (one_new _ _ _) (one_one _) (by decide) HL1.out HL2.out (by simp; omega) _ rfl ?_; intro g cap w1 hown hg hat hltg; have hp1 := (hg.block p (by simp; omega) (fun e => row_block (by decide) hv HP.out e.symm)).trans (heap_old HP.out _); have hc1 := cell_of_one hp1; have hf1 := free_of_one hp1))
        all_goals
          have hW2 := writer_grown (ys := cur ++ [z]) hB (heap_old HP.out _) (hv.alloc _) (by rw [u8s_app, List.length_append]; exact hown) (grown_undrew hg) (by simp; omega)
          have HW := hide hW2
          clear hW2
          go_wp2
          go_roundw
          case rel =>
            refine ⟨1, by omega, by go_num, ?_, hb.trans (((Below.refl B wr).alloc (by omega) _).trans HW.out.2)⟩
            rw [show bs ++ (Uv.word x).take 1 = cur ++ [z] by rw [HZ.out, HCU.out]; simp [Uv.word]]
            exact HW.out.1
          case measure => simp [intOf]
      · have hz : IntKind.u8.wrap ((x : Int) / 256) = ((x / 256 % 256 : Nat) : Int) := by rw [IntKind.wrap_u8']; simp
        obtain ⟨z, hzz⟩ : ∃ z, z = x / 256 % 256 := ⟨_, rfl⟩
        rw [← hzz] at hz
        have HZ := hide hzz
        clear hzz
        go_wp2
        go_region_law (first
          | (refine step_append_lies _ rfl (.tmp 12) (.tmp 18) 25 rfl B 5 i0 (.int .u8 0) 1 1 Tryd.underlying25 hi hz0 hz1 hz2 rfl (by decide) v _ _ rfl (hv.alloc _) ⟨wr.heap.size, 0, none⟩ 1 1 [.int .u8 (z : Int)] rfl rfl (one_new _ _ _) (one_one _) (by decide) HL1.out HL2.out (by simp; omega) _ rfl ?_; intro g cap w1 hown hg hat hltg; have hp1 := (hg.block p (by simp; omega) (fun e => row_block (by decide) hv HP.out e.symm)).trans (heap_old HP.out _); have hc1 := cell_of_one hp1; have hf1 := free_of_one hp1))
        all_goals
          have hW2 := writer_grown (ys := cur ++ [z]) hB (heap_old HP.out _) (hv.alloc _) (by rw [u8s_app, List.length_append]; exact hown) (grown_undrew hg) (by simp; omega)
          have HW := hide hW2
          clear hW2
          go_wp2
          go_roundw
          case rel =>
            refine ⟨2, by omega, by go_num, ?_, hb.trans (((Below.refl B wr).alloc (by omega) _).trans HW.out.2)⟩
            rw [show bs ++ (Uv.word x).take 2 = cur ++ [z] by rw [HZ.out, HCU.out]; simp [Uv.word]]
            exact HW.out.1
          case measure => simp [intOf]
      · have hz : IntKind.u8.wrap ((x : Int) / 65536) = ((x / 65536 % 256 : Nat) : Int) := by rw [IntKind.wrap_u8']; simp
        obtain ⟨z, hzz⟩ : ∃ z, z = x / 65536 % 256 := ⟨_, rfl⟩
        rw [← hzz] at hz
        have HZ := hide hzz
        clear hzz
        go_wp2
        go_region_law (first
          | (refine step_append_lies _ rfl (.tmp 12) (.tmp 18) 25 rfl B 5 i0 (.int .u8 0) 1 1 Tryd.underlying25 hi hz0 hz1 hz2 rfl (by decide) v _ _ rfl (hv.alloc _) ⟨wr.heap.size, 0, none⟩ 1 1 [.int .u8 (z : Int)] rfl rfl (one_new _ _ _) (one_one _) (by decide) HL1.out HL2.out (by simp; omega) _ rfl ?_; intro g cap w1 hown hg hat hltg; have hp1 := (hg.block p (by simp; omega) (fun e => row_block (by decide) hv HP.out e.symm)).trans (heap_old HP.out _); have hc1 := cell_of_one hp1; have hf1 := free_of_one hp1))
        all_goals
          have hW2 := writer_grown (ys := cur ++ [z]) hB (heap_old HP.out _) (hv.alloc _) (by rw [u8s_app, List.length_append]; exact hown) (grown_undrew hg) (by simp; omega)
          have HW := hide hW2
          clear hW2
          go_wp2
          go_roundw
          case rel =>
            refine ⟨3, by omega, by go_num, ?_, hb.trans (((Below.refl B wr).alloc (by omega) _).trans HW.out.2)⟩
            rw [show bs ++ (Uv.word x).take 3 = cur ++ [z] by rw [HZ.out, HCU.out]; simp [Uv.word]]
            exact HW.out.1
          case measure => simp [intOf]
      · have hz : IntKind.u8.wrap ((x : Int) / 16777216) = ((x / 16777216 % 256 : Nat) : Int) := by rw [IntKind.wrap_u8']; simp
        obtain ⟨z, hzz⟩ : ∃ z, z = x / 16777216 % 256 := ⟨_, rfl⟩
        rw [← hzz] at hz
        have HZ := hide hzz
        clear hzz
        go_wp2
        go_region_law (first
          | (refine step_append_lies _ rfl (.tmp 12) (.tmp 18) 25 rfl B 5 i0 (.int .u8 0) 1 1 Tryd.underlying25 hi hz0 hz1 hz2 rfl (by decide) v _ _ rfl (hv.alloc _) ⟨wr.heap.size, 0, none⟩ 1 1 [.int .u8 (z : Int)] rfl rfl (one_new _ _ _) (one_one _) (by decide) HL1.out HL2.out (by simp; omega) _ rfl ?_; intro g cap w1 hown hg hat hltg; have hp1 := (hg.block p (by simp; omega) (fun e => row_block (by decide) hv HP.out e.symm)).trans (heap_old HP.out _); have hc1 := cell_of_one hp1; have hf1 := free_of_one hp1))
        all_goals
          have hW2 := writer_grown (ys := cur ++ [z]) hB (heap_old HP.out _) (hv.alloc _) (by rw [u8s_app, List.length_append]; exact hown) (grown_undrew hg) (by simp; omega)
          have HW := hide hW2
          clear hW2
          go_wp2
          go_roundw
          case rel =>
            refine ⟨4, by omega, by go_num, ?_, hb.trans (((Below.refl B wr).alloc (by omega) _).trans HW.out.2)⟩
            rw [show bs ++ (Uv.word x).take 4 = cur ++ [z] by rw [HZ.out, HCU.out]; simp [Uv.word]]
            exact HW.out.1
          case measure => simp [intOf]
    · obtain rfl : i = 4 := by omega
      go_wp2
      go_end0
      refine ⟨rfl, ⟨hB, v, HP.out, ?_⟩, hb⟩
      have := HCU.out
      rw [show (Uv.word x).take 4 = Uv.word x from rfl] at this
      rw [← this]
      exact hv
end Go.Proofs.YtgebekklkodpaaaDoor
