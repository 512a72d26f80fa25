/- arguments opened: numbers, bytes -/
import Derived.Test.YtmkbbekeimnajaaDoorTbl
import Derived.Test.YtmkbbekeimnajaaDoorLi
namespace Go.Proofs.YtmkbbekeimnajaaDoor
open Go Go.ChangeShapes Go.WideShapes Go.ChangeAt Go.RowKit
theorem co3 : Tryd.prog.cellsOf 3 = 1 := by kernel_rfl
theorem co5 : Tryd.prog.cellsOf 5 = 1 := by kernel_rfl
theorem by3 : Tryd.prog.bytesOf 3 = 8 := by kernel_rfl
theorem by5 : Tryd.prog.bytesOf 5 = 1 := by kernel_rfl
/-- what was read has this length -/
def Len {H : Type} (d : DataW H) (n : Nat) : Prop := (d = .nil ∧ n = 0) ∨ ∃ elems sp, d = .slice elems sp ∧ elems.length = n
section
variable {H : Type} {enc : TypeId × Value → H} {P : Program} {W : World} {base : Nat} {spare : Nat → Bool} {held : Bool} {n : Nat} {v : Value} {d : DataW H} {p : List MemPlace}
theorem ints_of_trod {T E : TypeId} (hT : P.underlying T = some (.slice E)) (hE : P.underlying E = some (.int .i64)) (hC : P.cellsOf E = 1) (h : DataW.trod enc P W base spare held n T [v] = some (d, p)) :
    ∃ zs, Ints W v zs ∧ Len d zs.length := by
  rcases open_ints hT hE hC h with ⟨hcs, hx⟩ | ⟨a, len, cap, zs, hcs, hb, hl, hm, hz, hx, hc, hw⟩
  · simp only [List.cons.injEq, and_true] at hcs
    simp only [Prod.mk.injEq] at hx
    exact ⟨[], .inl ⟨hcs, rfl⟩, .inl ⟨hx.1, rfl⟩⟩
  · simp only [List.cons.injEq, and_true] at hcs
    simp only [Prod.mk.injEq] at hx
    have hlz : len ≤ zs.length := by rw [hz]; split <;> omega
    have hlen : (zs.take len).length = len := by simp; omega
    refine ⟨zs.take len, .inr ⟨a, cap, by rw [hlen]; exact hcs, by rw [hlen]; exact hl, by unfold maxLen at hm; omega, fun k x hk => ?_⟩, .inr ⟨_, _, hx.1, by simp [lits]⟩⟩
    obtain ⟨hkl, hz2⟩ := List.getElem?_eq_some_iff.1 hk
    simp at hkl hz2
    rw [hc k (by omega)]
    have e : zs.getD k 0 = x := by rw [List.getD_eq_getElem?_getD, List.getElem?_eq_getElem (by omega)]; exact hz2
    rw [e]
theorem bytes_of_trod {T E : TypeId} (hT : P.underlying T = some (.slice E)) (hE : P.underlying E = some (.int .u8)) (hC : P.cellsOf E = 1) (h : DataW.trod enc P W base spare held n T [v] = some (d, p)) :
    ∃ bs, Src W v bs ∧ Len d bs.length := by
  rcases open_ints hT hE hC h with ⟨hcs, hx⟩ | ⟨a, len, cap, zs, hcs, hb, hl, hm, hz, hx, hc, hw⟩
  · simp only [List.cons.injEq, and_true] at hcs
    simp only [Prod.mk.injEq] at hx
    exact ⟨[], ⟨by simp, .inl ⟨hcs, rfl⟩⟩, .inl ⟨hx.1, rfl⟩⟩
  · simp only [List.cons.injEq, and_true] at hcs
    simp only [Prod.mk.injEq] at hx
    have hlz : len ≤ zs.length := by rw [hz]; split <;> omega
    have hlen : ((zs.take len).map Int.toNat).length = len := by simp; omega
    have hin : ∀ z ∈ zs, 0 ≤ z ∧ z ≤ 255 := fun z hz => by
      have := hw z hz
      simp [Lit.wf, IntKind.min, IntKind.max, IntKind.signed, IntKind.bits] at this
      omega
    refine ⟨(zs.take len).map Int.toNat, ⟨?_, .inr ⟨a, cap, by rw [hlen]; exact hcs, by rw [hlen]; exact hl, by unfold maxLen at hm; omega, ?_⟩⟩, .inr ⟨_, _, hx.1, by simp [lits]⟩⟩
    · intro x hx
      obtain ⟨z, hz, rfl⟩ := List.mem_map.1 hx
      have := hin z (List.mem_of_mem_take hz)
      omega
    · intro k x hk
      simp only [List.getElem?_map, Option.map_eq_some_iff] at hk
      obtain ⟨z, hz, rfl⟩ := hk
      obtain ⟨hkl, hz2⟩ := List.getElem?_eq_some_iff.1 hz
      simp at hkl hz2
      have hmem : z ∈ zs := by rw [← hz2]; exact List.getElem_mem _
      have h0 := hin z hmem
      rw [hc k (by omega)]
      have e : zs.getD k 0 = z := by rw [List.getD_eq_getElem?_getD, List.getElem?_eq_getElem (by omega)]; exact hz2
      rw [e, Int.toNat_of_nonneg h0.1]
end
set_option maxRecDepth 100000 in
theorem open_nums {H : Type} {enc : TypeId × Value → H} {W : World} {base : Nat} {v : Value} {d : DataW H} {p : List MemPlace}
    (hv : Value.okWide Tryd.prog W .any base 22 v) (h : DataW.Trod enc Tryd.prog W 0 (fun _ => true) true 22 v d p) : ∃ zs, Ints W v zs ∧ Len d zs.length := by
  obtain ⟨a0, len, cap, rfl⟩ := okWide_slice Tryd.underlying22 hv
  obtain ⟨fuel, hf⟩ := h
  exact ints_of_trod Tryd.underlying22 Tryd.underlying3 co3 hf
set_option maxRecDepth 100000 in
theorem open_bytes {H : Type} {enc : TypeId × Value → H} {W : World} {base : Nat} {v : Value} {d : DataW H} {p : List MemPlace}
    (hv : Value.okWide Tryd.prog W .any base 46 v) (h : DataW.Trod enc Tryd.prog W 0 (fun _ => true) true 46 v d p) : ∃ bs, Src W v bs ∧ Len d bs.length := by
  obtain ⟨a0, len, cap, rfl⟩ := okWide_slice Tryd.underlying46 hv
  obtain ⟨fuel, hf⟩ := h
  exact bytes_of_trod Tryd.underlying46 Tryd.underlying5 co5 hf
/-- the reach pays for their number -/
theorem nums_reach {H : Type} {ts : List TypeId} {ds : List (DataW H)} (hsz : (DataW.weightsEach Tryd.prog ts ds).all (· ≤ reachBytes) = true) {j : Nat} {d : DataW H} {k : Nat} (ht : ts[j]? = some 22) (hd : ds[j]? = some d)
    (h : Len d k) : k * 8 ≤ 140737488351232 := by
  rcases h with ⟨_, rfl⟩ | ⟨elems, sp, rfl, hl⟩
  · simp
  · have := sized_slice hsz ht hd Tryd.underlying22
    rw [by3] at this
    simp only [reachBytes] at this
    omega
theorem bytes_reach {H : Type} {ts : List TypeId} {ds : List (DataW H)} (hsz : (DataW.weightsEach Tryd.prog ts ds).all (· ≤ reachBytes) = true) {j : Nat} {d : DataW H} {k : Nat} (ht : ts[j]? = some 46) (hd : ds[j]? = some d)
    (h : Len d k) : k ≤ 140737488351232 := by
  rcases h with ⟨_, rfl⟩ | ⟨elems, sp, rfl, hl⟩
  · simp
  · have := sized_slice hsz ht hd Tryd.underlying46
    rw [by5] at this
    simp only [reachBytes] at this
    omega
end Go.Proofs.YtmkbbekeimnajaaDoor
