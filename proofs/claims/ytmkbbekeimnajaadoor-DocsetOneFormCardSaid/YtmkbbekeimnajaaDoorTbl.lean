/- the table off the row -/
import Derived.Test.YtmkbbekeimnajaaDoorFr
namespace Go.Proofs.YtmkbbekeimnajaaDoor
open Go Go.RowKit Ds
theorem gTab : Tryd.prog.globalNamed "math/bits.deBruijn64tab" = some 15 := by kernel_rfl
theorem tTab : (Tryd.prog.globals[15]?).map (·.type) = some 123 := by kernel_rfl
theorem debr_of_mem {W : World} {l : List (String × DataW Unit)} (h : laidMet Tryd.prog l W) (hm : ("math/bits.deBruijn64tab", Rows.laid_math_bits_deBruijn64tab) ∈ l) : DeBr W := by
  obtain ⟨r, h1⟩ := laid_mem h hm
  have ht : Go.Lib.TabIs Tryd.prog W "math/bits.deBruijn64tab" .u8 (Go.Lib.deBruijn64tab.map fun (n : Nat) => (n : Int)) := Go.Lib.tabIs_of_head gTab tTab Tryd.underlying123 Tryd.underlying5 (by kernel_rfl) (by kernel_rfl) h1
  intro j hj
  have := ht.cell gTab j (by simpa [Go.Lib.deBruijn64tab] using hj)
  rw [this]
  simp [List.getD, List.getElem?_map]
  cases hx : Go.Lib.deBruijn64tab[j]? <;> rfl
end Go.Proofs.YtmkbbekeimnajaaDoor
