/- lives: a fixed fact -/
import Derived.Test.YtgebekklkodpaaaDoorRefEnc
import Derived.Test.YtgebekklkodpaaaDoorNum
import Derived.Lib.SlBytesConst
namespace Go.Proofs.YtgebekklkodpaaaDoor
open Go.RowKit

theorem enc_a_len : (enc 1 [97]).length = 7 := by decide +kernel
theorem enc_a_2 : (u8s (enc 1 [97])).toArray[2]? = some (.int .u8 97) := rfl
def nines : List Nat := [49, 50, 51, 52, 53, 54, 55, 56, 57]
theorem sum_nines : sum nines = 3421780262 := by decide +kernel

theorem encode_a (w : World) (Z : Zip w) (hg : 16 < w.heap.size) (b : Nat) (hc : w.cell? ⟨b, 0, none⟩ = some (.int .u8 97)) :
    Calls Tryd.prog 24 #[.int .u8 1, .slice (some ⟨b, 0, none⟩) 1 1] w fun e w' => ∃ g, e = .returned (.tuple #[.slice (some ⟨g, 0, none⟩) 7 7, .nilIface]) ∧ w.heap.size ≤ g ∧
      w'.cell? ⟨g, 2, none⟩ = some (.int .u8 97) ∧ Below w.heap.size w w' := by
  have h : Calls Tryd.prog 24 #[.int .u8 1, .slice (some ⟨b, 0, none⟩) 1 1] w _ := encode_pos w Z hg 1 (by omega) (by omega) _ [97] ⟨by simp, .inr ⟨⟨b, 0, none⟩, 1, rfl, by simp, by omega, fun k x hk => by
    match k, hk with
    | 0, hk => simp at hk; subst hk; simpa [Addr.add] using hc⟩⟩ (by simp)
  rw [enc_a_len] at h
  refine h.mono fun e w' ⟨g, he, h1, h2, h3⟩ => ⟨g, he, h1, ?_, h3⟩
  rw [cell_at h2, enc_a_2]
theorem sum_9 (w : World) (Z : Zip w) (b : Nat) (hh : w.heap[b]? = some (.cells #[.int .u8 49, .int .u8 50, .int .u8 51, .int .u8 52, .int .u8 53, .int .u8 54, .int .u8 55, .int .u8 56, .int .u8 57] 5 (9, 10))) :
    Calls Tryd.prog 28 #[.slice (some ⟨b, 0, none⟩) 9 9] w fun e w' => e = .returned (.int .u32 3421780262) ∧ w = w' := by
  have h : Calls Tryd.prog 28 #[.slice (some ⟨b, 0, none⟩) 9 9] w _ := sum_any w Z _ nines (src_block (bs := nines) hh (by decide) (by decide)) (by decide)
  rw [sum_nines] at h
  exact h

set_option maxRecDepth 100000 in
set_option maxHeartbeats 1000000 in
theorem lives_any (w : World) (Z : Zip w) (hg : 16 < w.heap.size) : Calls Tryd.prog 23 #[] w fun e w' => e = .returned (.bool true) ∧ Below w.heap.size w w' := by
  have HZ := hide Z
  clear Z
  have kc := fun (w : World) (C : Array Value) (n c : Nat) => Lib.run_convert_bytes_const (P := Tryd.prog) w 25 5 C n c Tryd.underlying25 Tryd.underlying5
  go_enter Tryd.func23, Tryd.ntmps23
  go_wp2_with fail
  have hb0 := (Below.refl w.heap.size w).alloc (Nat.le_refl _) (.cells #[.int .u8 97] 5 (1, 2))
  refine (encode_a (w.alloc (.cells #[.int .u8 97] 5 (1, 2))) (zip_below HZ.out hb0 hg) (by simp; omega) _ (by rw [World.cell?_alloc_mark]; rfl)).mono ?_
  rintro e w1 ⟨g, rfl, hge, hc, hb⟩
  have hB1 := hb0.trans (hb.mono (by simp))
  have hs1 := hB1.size
  have HB1 := hide hB1
  clear hb hB1 hb0
  simp only [World.size_alloc] at hge
  have hcA := fun o => (World.cell?_alloc_lt w1 o _ (World.block_lt_of_cell? w1 _ hc)).trans hc
  go_wp2_with fail
  refine (sum_9 (w1.alloc (.cells #[.int .u8 49, .int .u8 50, .int .u8 51, .int .u8 52, .int .u8 53, .int .u8 54, .int .u8 55, .int .u8 56, .int .u8 57] 5 (9, 10))) (zip_below HZ.out (HB1.out.alloc hs1 _) hg) _ (heap_new rfl _)).mono ?_
  rintro e w' ⟨rfl, rfl⟩
  go_wp2
  go_ret
  exact ⟨rfl, HB1.out.alloc hs1 _⟩
end Go.Proofs.YtgebekklkodpaaaDoor
