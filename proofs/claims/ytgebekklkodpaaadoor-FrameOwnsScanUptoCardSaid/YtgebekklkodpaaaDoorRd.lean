/- codec.Reader -/
import Derived.Test.YtgebekklkodpaaaDoorAp
namespace Go.Proofs.YtgebekklkodpaaaDoor
open Go.RowKit

def RdAt (w : World) (p at_ : Nat) (bv : Value) (n : Nat) : Prop := w.heap[p]? = some (.cells #[.int .i64 at_, .int .i64 n, bv] 120 (0, 0))

theorem cells3 {w : World} {p : Nat} {a b c : Value} {t : TypeId} {fr : Nat × Nat} (h : w.heap[p]? = some (.cells #[a, b, c] t fr)) :
    w.cell? ⟨p, 0, none⟩ = some a ∧ w.cell? ⟨p, 1, none⟩ = some b ∧ w.cell? ⟨p, 2, none⟩ = some c := by
  refine ⟨?_, ?_, ?_⟩
  · rw [cell_at h]; rfl
  · rw [cell_at h]; rfl
  · rw [cell_at h]; rfl

theorem left_any (w : World) (p a n : Nat) (bv : Value) (h : RdAt w p a bv n) (hn : a ≤ n) (hn2 : n ≤ 9223372036854775807) :
    Calls Tryd.prog 76 #[.pointer (some ⟨p, 0, none⟩)] w fun e w' => e = .returned (.int .i64 ((n : Int) - a)) ∧ ∃ q, w' = w.drewN q := by
  obtain ⟨h0, h1, h2⟩ := cells3 h
  clear h
  have hw : IntKind.i64.wrap ((n : Int) - a) = (n : Int) - a := by rw [IntKind.wrap_i64]; omega
  go_enter Tryd.func76, Tryd.ntmps76
  go_wp2
  go_quiet (fail)
  go_wp2
  go_ret
  exact ⟨rfl, _, rfl⟩

theorem at_any (w : World) (p a n : Nat) (bv : Value) (h : RdAt w p a bv n) :
    Calls Tryd.prog 75 #[.pointer (some ⟨p, 0, none⟩)] w fun e w' => e = .returned (.int .i64 (a : Int)) ∧ w = w' := by
  obtain ⟨h0, h1, h2⟩ := cells3 h
  clear h
  go_enter Tryd.func75, Tryd.ntmps75
  go_wp2
  go_ret
  exact ⟨rfl, rfl⟩

set_option maxRecDepth 100000 in
theorem new_reader (w : World) (v : Value) (bs : List Nat) (hs : Src w v bs) (hn : bs.length ≤ 140737488355328) :
    Calls Tryd.prog 73 #[v] w fun e w' => ∃ p bv, e = .returned (.pointer (some ⟨p, 0, none⟩)) ∧ w.heap.size ≤ p ∧ RdAt w' p 0 bv bs.length ∧ Src w' bv bs ∧ Below w.heap.size w w' := by
  obtain ⟨ao, cap, rfl⟩ := src_form hs
  have HS := hide hs
  clear hs
  go_enter Tryd.func73, Tryd.ntmps73
  go_wp2_with fail
  have HBA := hide ((Below.refl w.heap.size w).alloc (Nat.le_refl _) (.cells #[.slice ao bs.length cap] 25))
  refine (concat_any _ w.heap.size (.slice ao bs.length cap) bs (by rw [World.cell?_alloc_new]; rfl) (src_keep HS.out HBA.out) hn).mono ?_
  rintro e w1 ⟨rfl, hh, hb⟩
  have HB1 := hide (HBA.out.trans (hb.mono HBA.out.size))
  rw [World.size_alloc] at hh
  have HS1 := hide (src_block hh HS.out.1 (by omega))
  clear hh hb
  go_wp2
  go_ret
  exact ⟨w1.heap.size, _, rfl, HB1.out.size, heap_new rfl _, src_keep HS1.out ((Below.refl _ _).alloc (Nat.le_refl _) _), HB1.out.alloc HB1.out.size _⟩
end Go.Proofs.YtgebekklkodpaaaDoor
