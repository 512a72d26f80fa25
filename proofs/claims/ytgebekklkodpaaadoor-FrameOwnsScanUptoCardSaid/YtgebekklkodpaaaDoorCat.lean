/- codec.Concat of one list; Writer.Bytes -/
import Derived.Test.YtgebekklkodpaaaDoorWr
import Derived.Laws.CopyOwn
namespace Go.Proofs.YtgebekklkodpaaaDoor
open Go.RowKit

theorem size5 : (Tryd.prog.info? 5).map (·.size) = some 1 := by kernel_rfl

/-- the cells of a full row -/
theorem row_full {w : World} {B g n : Nat} {xs : List Value} (h : w.ownsRow B 5 1 (.slice (some ⟨g, 0, none⟩) n n) n xs) : w.heap[g]? = some (.cells xs.toArray 5 (0, 0)) := by
  rcases h.2 with ⟨h0, _⟩ | ⟨g', cap, cur, hv, _, hg, _, _, hs, ht⟩
  · cases h0
  · simp only [Value.slice.injEq, Option.some.injEq, Addr.mk.injEq] at hv
    obtain ⟨⟨rfl, _⟩, _, rfl⟩ := hv
    rw [hg]
    have : cur.toList = xs := by rw [← ht, List.take_of_length_le (by simp; omega)]
    rw [← this]
theorem row_of_heap {w : World} {B g : Nat} {xs : List Value} (hg : w.heap[g]? = some (.cells xs.toArray 5 (0, 0))) (hB : B ≤ g) (hl : xs.length ≤ 9223372036854775807) : w.ownsRow B 5 1 (.slice (some ⟨g, 0, none⟩) xs.length xs.length) xs.length xs :=
  ⟨by simp, .inr ⟨g, xs.length, xs.toArray, rfl, hB, hg, Nat.le_refl _, by unfold maxLen; omega, by simp, by simp⟩⟩

set_option maxRecDepth 100000 in
set_option maxHeartbeats 1000000 in
theorem concat_some (w : World) (g cap : Nat) (ao : Option Addr) (bs : List Nat) (hc : w.cell? ⟨g, 0, none⟩ = some (.slice ao bs.length cap)) (hn : bs.length ≤ 140737488355328)
    (hs : 0 < bs.length → ∃ ad, ao = some ad ∧ ∀ (j : Nat) (u : Value), (u8s bs)[j]? = some u → w.cell? (ad.add j) = some u) :
    Calls Tryd.prog 68 #[.slice (some ⟨g, 0, none⟩) 1 1] w fun e w' => e = .returned (.slice (some ⟨w.heap.size, 0, none⟩) bs.length bs.length) ∧ w'.heap[w.heap.size]? = some (.cells (u8s bs).toArray 5 (0, 0)) ∧ Below w.heap.size w w' := by
  obtain ⟨i0, hi, hz0, hz1, hz2⟩ := info_parts info5
  go_enter Tryd.func68, Tryd.ntmps68
  go_wp2
  refine wp_loop_rounds 2 ?_
  rw [rounds_succ]
  go_wp2
  rw [rounds_succ]
  go_wp2_with (at_make; refine wpList_make_full _ rfl (.tmp 21) (.tmp 21) 25 rfl w.heap.size 5 i0 (.int .u8 0) 1 Tryd.underlying25 hi hz0 hz1 _ _ _ _ bs.length rfl rfl rfl rfl ?_ ?_ (Nat.le_refl _) ?_)
  case refine_1 => rw [hz2]; omega
  case refine_2 => unfold maxLen; omega
  intro w1 hown hg
  have hcell1 := (hg.cell hc (by simp))
  have hB := (Below.refl w.heap.size w).grown hg (Nat.le_refl _) (fun k hk => by cases hk)
  have hrow := row_full hown
  have hml : (madeCells #[Value.int IntKind.u8 0] bs.length).toList.length = bs.length := by simp [madeCells]
  have hsrc : 0 < bs.length → ∃ ad, ao = some ad ∧ ∀ (j : Nat) (u : Value), (u8s bs)[j]? = some u → w1.cell? (ad.add j) = some u := fun h0 => by
    obtain ⟨ad, h1, h2⟩ := hs h0
    exact ⟨ad, h1, fun j u hu => hg.cell (h2 j u hu) (by simp)⟩
  generalize (madeCells #[Value.int IntKind.u8 0] bs.length).toList = Z at hrow hml
  have HR := hide hrow
  have HS := hide hsrc
  have HB := hide hB
  clear hown hg hrow hs hsrc hc hB
  have hsp : splice Z 0 (u8s bs) = u8s bs := by
    unfold splice
    rw [List.take_zero, List.nil_append, List.drop_eq_nil_of_le (by rw [u8s_len]; omega), List.append_nil]
  have HSP := hide hsp
  have HML := hide hml
  have hul := u8s_len bs
  have HUL := hide hul
  clear hsp hml hul
  by_cases h0 : bs.length = 0
  · have hn0 : bs = [] := List.eq_nil_of_length_eq_zero h0
    clear h0
    subst hn0
    go_wp2
    refine wp_loop_rounds 2 ?_
    rw [rounds_succ]
    go_wp2_with (refine wpList_copy_splice rfl (.tmp 32) (.tmp 33) 25 25 rfl 5 Tryd.underlying25 size5 (some ⟨w.heap.size, 0, none⟩) ao 0 0 0 cap rfl rfl w.heap.size 0 Z 5 HR.out (u8s []) ?_ ?_ ?_ ?_ w.heap.size w HB.out (Nat.le_refl _) ?_)
    case refine_1 => rfl
    case refine_2 => exact fun h => absurd h (by decide)
    case refine_3 => simp [u8s]
    case refine_4 => exact u8s_one _
    intro w2 hR2 hB2
    have HB2 := hide hB2
    clear hB2
    go_wp2
    rw [rounds_succ]
    go_wp2
    go_ret
    refine ⟨rfl, ?_, HB2.out⟩
    have := hR2.out
    rw [HSP.out] at this
    exact this
  · have hpos : 0 < bs.length := by omega
    go_wp2
    refine wp_loop_rounds 2 ?_
    rw [rounds_succ]
    go_wp2_with (refine wpList_copy_splice rfl (.tmp 32) (.tmp 33) 25 25 rfl 5 Tryd.underlying25 size5 (some ⟨w.heap.size, 0, none⟩) ao bs.length bs.length bs.length cap rfl rfl w.heap.size 0 Z 5 HR.out (u8s bs) ?_ ?_ ?_ ?_ w.heap.size w HB.out (Nat.le_refl _) ?_)
    case refine_1 => rw [HUL.out]; simp
    case refine_2 =>
      intro _
      obtain ⟨ad, h1, h2⟩ := HS.out hpos
      exact ⟨ad, h1, h2⟩
    case refine_3 => have h1 := HML.out; have h2 := HUL.out; omega
    case refine_4 => exact u8s_one _
    intro w2 hR2 hB2
    have HB2 := hide hB2
    have hul := HUL.out
    clear hB2
    go_wp2
    rw [rounds_succ]
    go_wp2
    go_ret
    refine ⟨rfl, ?_, HB2.out⟩
    have := hR2.out
    rw [HSP.out] at this
    exact this

theorem concat_any (w : World) (g : Nat) (v : Value) (bs : List Nat) (hc : w.cell? ⟨g, 0, none⟩ = some v) (hs : Src w v bs) (hn : bs.length ≤ 140737488355328) :
    Calls Tryd.prog 68 #[.slice (some ⟨g, 0, none⟩) 1 1] w fun e w' => e = .returned (.slice (some ⟨w.heap.size, 0, none⟩) bs.length bs.length) ∧ w'.heap[w.heap.size]? = some (.cells (u8s bs).toArray 5 (0, 0)) ∧ Below w.heap.size w w' := by
  rcases hs with ⟨_, ⟨rfl, rfl⟩ | ⟨ad, cap, rfl, _, _, hs⟩⟩
  · exact concat_some w g 0 none [] hc hn (fun h => absurd h (by decide))
  · exact concat_some w g cap (some ad) bs hc hn (fun _ => ⟨ad, rfl, src_news hs⟩)

set_option maxHeartbeats 400000 in
theorem writer_bytes (w : World) (B p : Nat) (bs : List Nat) (hW : WriterIs w B p bs) (hx : ∀ x ∈ bs, x < 256) (hn : bs.length ≤ 140737488355328) :
    Calls Tryd.prog 62 #[.pointer (some ⟨p, 0, none⟩)] w fun e w' => e = .returned (.slice (some ⟨w.heap.size + 1, 0, none⟩) bs.length bs.length) ∧ w'.heap[w.heap.size + 1]? = some (.cells (u8s bs).toArray 5 (0, 0)) ∧ Below w.heap.size w w' := by
  obtain ⟨hB, v, hp, hv⟩ := hW
  have hc := cell_of_one hp
  have HS := hide (src_own (hv.alloc (.cells #[v] 25)) hx)
  have hz : (w.alloc (.cells #[v] 25)).cell? ⟨w.heap.size, 0, none⟩ = some v := by rw [World.cell?_alloc_new]; rfl
  have HZ := hide hz
  have hform := Joins.ownsRow_forms hv
  clear hp hz hB hv
  rcases hform with ⟨rfl, h0⟩ | ⟨g, cap, rfl⟩
  · have h1 := List.eq_nil_of_length_eq_zero h0
    clear h0
    subst h1
    go_enter Tryd.func62, Tryd.ntmps62
    go_wp2_with (go_at_call 68; refine (concat_any _ _ _ [] HZ.out HS.out hn).mono ?_; rintro e w1 ⟨rfl, hh, hb⟩)
    go_ret
    rw [World.size_alloc] at *
    exact ⟨rfl, hh, ((Below.refl _ w).alloc (Nat.le_refl _) _).trans (hb.mono (by omega))⟩
  · go_enter Tryd.func62, Tryd.ntmps62
    go_wp2_with (go_at_call 68; refine (concat_any _ _ _ bs HZ.out HS.out hn).mono ?_; rintro e w1 ⟨rfl, hh, hb⟩)
    go_ret
    rw [World.size_alloc] at *
    exact ⟨rfl, hh, ((Below.refl _ w).alloc (Nat.le_refl _) _).trans (hb.mono (by omega))⟩
end Go.Proofs.YtgebekklkodpaaaDoor
