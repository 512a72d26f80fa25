/- bytes as strings -/
import Derived.Test.YtgebekklkodpaaaDoorEnc
namespace Go.Proofs.YtgebekklkodpaaaDoor
open Go.RowKit

/-- these bytes as a string -/
def bstr (bs : List Nat) : ByteArray := ⟨(bs.map fun n => UInt8.ofNat n).toArray⟩
theorem bstr_inj {xs ys : List Nat} (hx : ∀ x ∈ xs, x < 256) (hy : ∀ x ∈ ys, x < 256) (h : bstr xs = bstr ys) : xs = ys := by
  have h1 : xs.map (fun n => UInt8.ofNat n) = ys.map (fun n => UInt8.ofNat n) := by
    have := congrArg (fun b : ByteArray => b.data.toList) h
    simpa [bstr] using this
  have h2 := congrArg (List.map UInt8.toNat) h1
  simp only [List.map_map] at h2
  have id_of : ∀ zs : List Nat, (∀ x ∈ zs, x < 256) → zs.map (UInt8.toNat ∘ fun n => UInt8.ofNat n) = zs := fun zs hz => by
    conv => rhs; rw [← List.map_id zs]
    exact List.map_congr_left (fun z hz' => by have := hz z hz'; simp; omega)
  rw [id_of xs hx, id_of ys hy] at h2
  exact h2
theorem under9 : Tryd.prog.underlying 9 = some .string := Tryd.underlying9
/-- 'string(b)' -/
theorem src_string {w : World} {v : Value} {bs : List Nat} (h : Src w v bs) : (convert 25 9 v).run Tryd.prog w = .ok (.string (bstr bs)) w := by
  rcases h with ⟨h1, ⟨rfl, rfl⟩ | ⟨ad, cap, rfl, _, _, hc⟩⟩
  · exact run_convert_bytes_nil w 25 5 Tryd.underlying25 Tryd.underlying5 0 0 9 under9
  · have h2 := run_convert_bytes_back (P := Tryd.prog) w 25 9 5 ad cap (bs.map fun n => UInt8.ofNat n) Tryd.underlying25 Tryd.underlying5 under9 (fun j hj => by
      simp only [List.length_map] at hj
      rw [hc j bs[j] (List.getElem?_eq_getElem hj)]
      have := h1 bs[j] (List.getElem_mem hj)
      simp
      omega)
    rw [List.length_map] at h2
    exact h2
theorem src_of_own {w : World} {B g n cap : Nat} {bs : List Nat} (h : w.ownsRow B 5 1 (.slice (some ⟨g, 0, none⟩) n cap) bs.length (u8s bs)) (hx : ∀ x ∈ bs, x < 256) : Src w (.slice (some ⟨g, 0, none⟩) n cap) bs := src_own h hx
end Go.Proofs.YtgebekklkodpaaaDoor
