/- bytes.Equal -/
import Derived.Test.YtmkbbekeimnajaaDoorNu
import Derived.Laws.BytesArg
namespace Go.Proofs.YtmkbbekeimnajaaDoor
open Go.RowKit Ds Go
def strB (bs : List Nat) : ByteArray := strOfNums (bs.map Int.ofNat)
theorem strB_list (bs : List Nat) : (strB bs).toList = bs.map UInt8.ofNat := by
  rw [ByteArray.toList_eq]
  unfold strB strOfNums
  simp
theorem strB_inj {xs ys : List Nat} (hx : ∀ x ∈ xs, x < 256) (hy : ∀ x ∈ ys, x < 256) (h : (strB xs).toList = (strB ys).toList) : xs = ys := by
  rw [strB_list, strB_list] at h
  have hm : ∀ l : List Nat, (∀ x ∈ l, x < 256) → (l.map UInt8.ofNat).map UInt8.toNat = l := by
    intro l hl
    induction l with
    | nil => rfl
    | cons a r ih =>
      simp only [List.map_cons]
      rw [ih (fun x hx => hl x (by simp [hx]))]
      have := hl a (by simp)
      simp [Nat.mod_eq_of_lt this]
  rw [← hm xs hx, ← hm ys hy, h]
theorem conv_src {w : World} {v : Value} {bs : List Nat} (h : Src w v bs) : (convert 46 9 v).run Tryd.prog w = .ok (.string (strB bs)) w := by
  obtain ⟨h256, ⟨rfl, rfl⟩ | ⟨ad, cap, rfl, h1, h2, hc⟩⟩ := h
  · exact run_convert_bytes_nil (P := Tryd.prog) w 46 5 Tryd.underlying46 Tryd.underlying5 0 0 9 Tryd.underlying9
  · cases bs with
    | nil =>
      have hl := run_loadCells_list (P := Tryd.prog) w ad [] (fun j v hj => by simp at hj)
      show (convert 46 9 (.slice (some ad) 0 cap)).run Tryd.prog w = _
      rw [run_convert_bytes_string (P := Tryd.prog) w 46 9 5 (some ad) 0 cap Tryd.underlying46 Tryd.underlying5 Tryd.underlying9, run_bytesToString w ad 0 cap [] (by simpa using hl)]
      rfl
    | cons x r =>
      have h0 := hc 0 x rfl
      obtain ⟨b, off, sp⟩ := ad
      have hs : sp = none := by
        simp only [Addr.add, if_pos, World.cell?] at h0
        split at h0
        · split at h0
          · cases h0
          · rename_i hh; simpa using hh
        · cases h0
      subst hs
      refine run_convert_bytes_arg (P := Tryd.prog) w 46 5 Tryd.underlying46 Tryd.underlying5 b off (x :: r).length cap ((x :: r).map Int.ofNat) (by simp) (fun i hi => ?_) 9 Tryd.underlying9
      have := hc i ((x :: r)[i]) (List.getElem?_eq_getElem hi)
      rw [Addr.add_mid] at this
      rw [this]
      congr 2
      rw [List.getD_eq_getElem?_getD, List.getElem?_map, List.getElem?_eq_getElem hi]
      rfl
set_option maxRecDepth 100000 in
theorem bytes_equal (w : World) (v1 v2 : Value) (xs ys : List Nat) (h1 : Src w v1 xs) (h2 : Src w v2 ys) :
    Calls Tryd.prog 28 #[v1, v2] w fun e w' => e = .returned (.bool (decide (xs = ys))) ∧ w = w' := by
  have c1 := conv_src h1
  have c2 := conv_src h2
  have HE := hide (show (@BEq.beq (List UInt8) (@List.instBEq UInt8 (@instBEqOfDecidableEq UInt8 instDecidableEqUInt8)) (strB xs).toList (strB ys).toList) = decide (xs = ys) from by
    by_cases h : xs = ys
    · rw [h]; simp
    · rw [decide_eq_false h, beq_eq_false_iff_ne]
      exact fun e => h (strB_inj h1.1 h2.1 e))
  obtain ⟨s1, hs1⟩ : ∃ s, strB xs = s := ⟨_, rfl⟩
  obtain ⟨s2, hs2⟩ : ∃ s, strB ys = s := ⟨_, rfl⟩
  rw [hs1] at c1 HE
  rw [hs2] at c2 HE
  clear h1 h2 hs1 hs2
  go_enter Tryd.func28, Tryd.ntmps28
  go_wp2_with fail
  go_ret
  exact ⟨by rw [← HE.out]; rfl, rfl⟩
end Go.Proofs.YtmkbbekeimnajaaDoor
