/- a list of texts that came in -/
import Derived.Test.YtbimpoabiafdaaaDoorOpn2
import Derived.Test.YtbimpoabiafdaaaDoorMw
import Derived.SliceStrings
namespace Go.Proofs.YtbimpoabiafdaaaDoor
open Go Go.ChangeShapes Go.WideShapes Go.ChangeAt Go.RowKit Vf Go.Proofs.YtbimpoabiafdaaaDoor.Rows
theorem cells9 : Tryd.prog.cellsOf 9 = 1 := by kernel_rfl
set_option maxRecDepth 100000 in
theorem open_texts {H : Type} {enc : TypeId × Value → H} {W : World} {base : Nat} {v : Value} {d : DataW H} {p : List MemPlace}
    (hv : Value.okWide Tryd.prog W .any base 60 v) (h : DataW.Trod enc Tryd.prog W 0 (fun _ => true) true 60 v d p) : ∃ l, Texts W v l ∧ l.length ≤ uptoBulk d := by
  obtain ⟨a0, len, cap, rfl⟩ := okWide_slice Tryd.underlying60 hv
  obtain ⟨fuel, hf0⟩ := h
  have hf : DataW.trod enc Tryd.prog W 0 (fun _ => true) true fuel 60 [.slice a0 len cap] = some (d, p) := hf0
  rcases open_strings Tryd.underlying60 Tryd.underlying9 cells9 hf with ⟨h1, h2⟩ | ⟨a, len', cap', ss, hcs, _, hl, hm, hz, hx, hcell, _⟩
  · skip
    simp only [List.cons.injEq, and_true] at h1
    exact ⟨[], .inl ⟨h1, rfl⟩, by simp⟩
  · simp only [List.cons.injEq, and_true] at hcs
    simp only [Prod.mk.injEq] at hx
    have hlen : len' ≤ ss.length := by rw [hz]; split <;> omega
    refine ⟨ss.take len', .inr ⟨a, cap', by rw [hcs, List.length_take, Nat.min_eq_left hlen], by rw [List.length_take, Nat.min_eq_left hlen]; exact hl, by unfold maxLen at hm; omega, fun k x hk => ?_⟩, ?_⟩
    · have hkl : k < len' := by have := (List.getElem?_eq_some_iff.1 hk).1; rw [List.length_take] at this; omega
      rw [List.getElem?_take, if_pos hkl] at hk
      have := hcell k (by omega)
      rw [this, List.getD_eq_getElem?_getD, hk]
      rfl
    · rw [hx.1, uptoBulk]
      have := bulk_len (strs (H := H) (ss.take len'))
      simp [strs] at this ⊢
      omega
theorem small_texts {H : Type} {ds : List (DataW H)} (hk : uptoSmall H ds = true) {j : Nat} {d : DataW H} {l : List ByteArray} (hd : ds[j]? = some d) (h : l.length ≤ uptoBulk d) : l.length ≤ 1048576 := by
  have h1 := small_le hk
  have h2 := bulk_get hd
  omega
end Go.Proofs.YtbimpoabiafdaaaDoor
