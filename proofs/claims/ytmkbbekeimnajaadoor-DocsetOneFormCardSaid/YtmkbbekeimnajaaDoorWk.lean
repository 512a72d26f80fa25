/- the writer's byte and raw, and what lies beside: blocks of an array keep their cells -/
import Derived.Test.YtmkbbekeimnajaaDoorLi
namespace Go.Proofs.YtmkbbekeimnajaaDoor
open Go.RowKit
theorem keepTy_refl (w : World) (t : TypeId) : KeepTy w w t := fun _ _ _ h => h
theorem keepTy_alloc (w : World) (o : Obj) (t : TypeId) : KeepTy w (w.alloc o) t := fun _ _ _ h => heap_old h o
theorem writer_byte_k (w : World) (B p x : Nat) (bs : List Nat) (hW : WriterIs w B p bs) (hlen : bs.length + 1 ≤ 140737488355328) :
    Calls Tryd.prog 51 #[.pointer (some ⟨p, 0, none⟩), .int .u8 x] w fun e w' => e = .returned (.tuple #[]) ∧ WriterIs w' B p (bs ++ [x]) ∧ Below B w w' ∧ KeepTy w w' 89 := by
  obtain ⟨hB, v, hp, hv⟩ := hW
  obtain ⟨i0, hi, hz0, hz1, hz2⟩ := info_parts info5
  have hlt := heap_lt hp
  have hc := cell_of_one hp
  have hcA := fun o => cell_of_one (heap_old hp o)
  have HP := hide hp
  have HL := hide hlen
  clear hp
  go_enter Tryd.func51, Tryd.ntmps51
  go_wp2_with (at_builtin; refine wpList_append_own _ rfl (.tmp 8) (.tmp 10) 46 rfl B 5 i0 (.int .u8 0) 1 1 Tryd.underlying46 hi hz0 hz1 hz2 rfl (by decide) _ _ _ rfl (hv.alloc _) ⟨w.heap.size, 0, none⟩ 1 1 [.int .u8 x] rfl rfl ?c1 ?c2 ?c3 ?c4 ?c5 ?_)
  case c1 => exact one_new _ _ _
  case c2 => intro u hu; simp at hu; subst hu; rfl
  case c3 => unfold maxLen; omega
  case c4 => omega
  case c5 => simp; omega
  intro v' w1 hown hg _
  have hW2 := writer_grown (ys := bs ++ [x]) hB (heap_old HP.out _) (hv.alloc _) (by rw [u8s_app, List.length_append]; exact hown) hg (by simp; omega)
  have hp1 := (hg.block p (by simp; omega) (fun e => row_block (by decide) hv HP.out e.symm)).trans (heap_old HP.out _)
  have hc1 := cell_of_one hp1
  have hf1 := free_of_one hp1
  obtain ⟨g, cap, rfl⟩ := Joins.ownsRow_form hown (by omega)
  have HT := hide (((keepTy_alloc w (.cells #[.int .u8 x] 5) 89).trans (keepTy_grown hg (notTy_row (hv.alloc _) (by decide)))).trans (keepTy_at hp1 (by decide) (i := 0) (.slice (some ⟨g, 0, none⟩) (bs.length + 1) cap)))
  have HW := hide hW2
  clear hW2 hp1 hown hg
  go_wp2
  go_end0
  exact ⟨rfl, HW.out.1, ((Below.refl B w).alloc (by omega) _).trans HW.out.2, HT.out⟩
theorem writer_raw_some_k (w : World) (B p : Nat) (bs ys : List Nat) (ad : Addr) (cap : Nat) (hW : WriterIs w B p bs) (hs : B ≤ w.heap.size)
    (hn : ∀ (j : Nat) (u : Value), (u8s ys)[j]? = some u → w.cell? (ad.add j) = some u) (hlen : bs.length + ys.length ≤ 140737488355328) :
    Calls Tryd.prog 52 #[.pointer (some ⟨p, 0, none⟩), .slice (some ad) ys.length cap] w fun e w' => e = .returned (.tuple #[]) ∧ WriterIs w' B p (bs ++ ys) ∧ Below B w w' ∧ KeepTy w w' 89 := by
  obtain ⟨hB, v, hp, hv⟩ := hW
  obtain ⟨i0, hi, hz0, hz1, hz2⟩ := info_parts info5
  have hlt := heap_lt hp
  have hc := cell_of_one hp
  have HP := hide hp
  have HL := hide hlen
  clear hp
  go_enter Tryd.func52, Tryd.ntmps52
  go_wp2_with (at_builtin; refine wpList_append_own _ rfl (.tmp 8) (.tmp 9) 46 rfl B 5 i0 (.int .u8 0) 1 1 Tryd.underlying46 hi hz0 hz1 hz2 rfl (by decide) _ _ _ rfl hv ad ys.length cap (u8s ys) rfl ?c0 ?c1 ?c2 ?c3 ?c4 ?c5 ?_)
  case c0 => simp [u8s_len]
  case c1 => exact hn
  case c2 => exact u8s_one _
  case c3 => unfold maxLen; omega
  case c4 => omega
  case c5 => omega
  intro v' w1 hown hg hnil
  have hW2 := writer_grown (ys := bs ++ ys) hB HP.out hv (by rw [u8s_app, List.length_append]; exact hown) hg hs
  have hp1 := (hg.block p (by omega) (fun e => row_block (by decide) hv HP.out e.symm)).trans HP.out
  have hc1 := cell_of_one hp1
  have hf1 := free_of_one hp1
  have hform := Joins.ownsRow_forms hown
  have HT := hide (fun x => (keepTy_grown hg (notTy_row hv (by decide))).trans (keepTy_at (t := 89) hp1 (by decide) (i := 0) x))
  have HW := hide hW2
  clear hW2 hp1 hown hg hnil
  rcases hform with ⟨rfl, _⟩ | ⟨g, cap, rfl⟩
  all_goals
    go_wp2
    go_end0
    exact ⟨rfl, HW.out.1, HW.out.2, HT.out _⟩
set_option maxHeartbeats 400000 in
theorem writer_raw_none_k (w : World) (B p : Nat) (bs : List Nat) (hW : WriterIs w B p bs) :
    Calls Tryd.prog 52 #[.pointer (some ⟨p, 0, none⟩), .slice none 0 0] w fun e w' => e = .returned (.tuple #[]) ∧ WriterIs w' B p bs ∧ Below B w w' ∧ KeepTy w w' 89 := by
  obtain ⟨hB, v, hp, hv⟩ := hW
  obtain ⟨i0, hi, hz0, hz1, hz2⟩ := info_parts info5
  have hc := cell_of_one hp
  have hf := free_of_one hp
  have hform := Joins.ownsRow_forms hv
  have HP := hide hp
  clear hp
  have hfin : WriterIs (w.setCell ⟨p, 0, none⟩ v) B p bs ∧ Below B w (w.setCell ⟨p, 0, none⟩ v) ∧ KeepTy w (w.setCell ⟨p, 0, none⟩ v) 89 := ⟨⟨hB, v, one_setCell HP.out, ownsRow_setCell_other hv (row_block (by decide) hv HP.out) _⟩, below_set (Below.refl _ _) hB _, keepTy_at HP.out (by decide) _⟩
  have HF := hide hfin
  clear hfin
  rcases hform with ⟨rfl, h0⟩ | ⟨g, cap, rfl⟩
  all_goals
    go_enter Tryd.func52, Tryd.ntmps52
    go_wp2_with (at_builtin; refine wpList_append_own_none rfl (.tmp 8) (.tmp 9) 46 rfl B 5 i0 1 Tryd.underlying46 hi _ _ _ rfl hv rfl ?_)
    go_end0
    exact ⟨rfl, HF.out⟩
theorem writer_raw_k (w : World) (B p : Nat) (bs ys : List Nat) (v : Value) (hW : WriterIs w B p bs) (hs : B ≤ w.heap.size) (hv : Src w v ys) (hlen : bs.length + ys.length ≤ 140737488355328) :
    Calls Tryd.prog 52 #[.pointer (some ⟨p, 0, none⟩), v] w fun e w' => e = .returned (.tuple #[]) ∧ WriterIs w' B p (bs ++ ys) ∧ Below B w w' ∧ KeepTy w w' 89 := by
  rcases hv with ⟨_, ⟨rfl, rfl⟩ | ⟨ad, cap, rfl, _, _, hc⟩⟩
  · rw [List.append_nil]
    exact writer_raw_none_k w B p bs hW
  · exact writer_raw_some_k w B p bs ys ad cap hW hs (src_news hc) hlen
end Go.Proofs.YtmkbbekeimnajaaDoor
