/- plain lemmas on worlds: blocks known whole -/
import Derived.Test.YtgebekklkodpaaaDoorProg
import Derived.WalkKit
import Derived.WalkLawsBesides
import Derived.Deep.MidRow
import Derived.KernelRfl
namespace Go.Proofs.YtgebekklkodpaaaDoor
open Go.RowKit

theorem ret_int {k : IntKind} {a b : Int} (h : a = b) : Ending.returned (.int k a) = .returned (.int k b) := by rw [h]
theorem hide {p : Prop} (h : p) : Hid p := h

theorem heap_lt {w : World} {g : Nat} {o : Obj} (h : w.heap[g]? = some o) : g < w.heap.size := (Array.getElem?_eq_some_iff.1 h).1
theorem heap_set {w : World} {g i : Nat} {cs : Array Value} {E : TypeId} {fr : Nat × Nat} (h : w.heap[g]? = some (.cells cs E fr)) (v : Value) :
    (w.setCell ⟨g, i, none⟩ v).heap[g]? = some (.cells (cs.setIfInBounds i v) E fr) := by
  simp only [World.setCell, Array.getElem?_modify, h]
  simp
theorem heap_old {w : World} {g : Nat} {o : Obj} (h : w.heap[g]? = some o) (x : Obj) : (w.alloc x).heap[g]? = some o := (Below.heap_alloc w x g (heap_lt h)).trans h
theorem heap_far {w : World} {g : Nat} {o : Obj} (h : w.heap[g]? = some o) {a : Addr} (ha : g ≠ a.block) (v : Value) : (w.setCell a v).heap[g]? = some o := (Below.heap_setCell w a v g ha).trans h
theorem heap_new {w : World} {g : Nat} (h : g = w.heap.size) (o : Obj) : (w.alloc o).heap[g]? = some o := by subst h; exact heap_alloc_new w o
theorem heap_else {w : World} {g b i : Nat} {o : Obj} (h : w.heap[g]? = some o) (hne : g ≠ b) (v : Value) : (w.setCell ⟨b, i, none⟩ v).heap[g]? = some o := heap_far h (a := ⟨b, i, none⟩) hne v
theorem below_set {B b i : Nat} {a w : World} (h : Below B a w) (hb : B ≤ b) (v : Value) : Below B a (w.setCell ⟨b, i, none⟩ v) := h.setCell (p := ⟨b, i, none⟩) hb v
theorem cell_at {w : World} {g : Nat} {cs : Array Value} {E : TypeId} {fr : Nat × Nat} (h : w.heap[g]? = some (.cells cs E fr)) (i : Nat) : w.cell? ⟨g, i, none⟩ = cs[i]? := by
  simp [World.cell?, h]
theorem free_at {w : World} {g : Nat} {cs : Array Value} {E : TypeId} (h : w.heap[g]? = some (.cells cs E (0, 0))) (i : Nat) : w.frozen? ⟨g, i, none⟩ = false := by
  simp [World.frozen?, h]
theorem range_at {w : World} {g : Nat} {cs : List Value} {E : TypeId} {fr : Nat × Nat} (h : w.heap[g]? = some (.cells cs.toArray E fr)) : w.rangeAt g 0 cs := fun j v hv => by
  rw [cell_at h]; simpa using hv
theorem there_at {w : World} {g : Nat} {cs : List Value} {E : TypeId} (h : w.heap[g]? = some (.cells cs.toArray E (0, 0))) : w.there g 0 cs.length := fun j hj => by
  refine ⟨?_, free_at h _⟩
  rw [cell_at h]; simp [hj]

theorem heap_setCells_any (g : Nat) (E : TypeId) (fr : Nat × Nat) : ∀ (vs : List Value) (o : Nat) (w : World) (C : Array Value), w.heap[g]? = some (.cells C E fr) →
    ∃ C' : Array Value, C'.size = C.size ∧ (w.setCells g o vs).heap[g]? = some (.cells C' E fr)
  | [], _, _, C, h => ⟨C, rfl, h⟩
  | v :: vs, o, w, C, h => by
    obtain ⟨C', h1, h2⟩ := heap_setCells_any g E fr vs (o + 1) (w.setCell ⟨g, o, none⟩ v) _ (heap_set h v)
    exact ⟨C', by simpa using h1, h2⟩
theorem heap_setCells {w : World} {g : Nat} {C : Array Value} {E : TypeId} {fr : Nat × Nat} (h : w.heap[g]? = some (.cells C E fr)) (vs : List Value) (hl : vs.length = C.size) :
    (w.setCells g 0 vs).heap[g]? = some (.cells vs.toArray E fr) := by
  obtain ⟨C', h1, h2⟩ := heap_setCells_any g E fr vs 0 w C h
  rw [h2]
  have : C' = vs.toArray := by
    apply Array.ext_getElem?
    intro j
    rw [← cell_at h2 j]
    by_cases hj : j < vs.length
    · have := World.cell?_setCells_in g vs 0 w (fun j hj => by rw [Nat.zero_add, cell_at h]; simp [hl ▸ hj]) j hj
      rw [Nat.zero_add] at this
      rw [this]; simp [hj]
    · rw [cell_at h2, Array.getElem?_eq_none (by omega), Array.getElem?_eq_none (by simp; omega)]
  rw [this]
theorem below_setCells {B g : Nat} (hg : B ≤ g) : ∀ (vs : List Value) (o : Nat) {a w : World}, Below B a w → Below B a (w.setCells g o vs)
  | [], _, _, _, h => h
  | v :: vs, o, _, _, h => below_setCells hg vs (o + 1) (h.setCell (p := ⟨g, o, none⟩) hg v)
theorem heap_setCells_far (g b : Nat) (hb : b ≠ g) : ∀ (vs : List Value) (o : Nat) (w : World), (w.setCells g o vs).heap[b]? = w.heap[b]?
  | [], _, _ => rfl
  | v :: vs, o, w => (heap_setCells_far g b hb vs (o + 1) _).trans (Below.heap_setCell w ⟨g, o, none⟩ v b hb)
theorem range_far {w : World} {b o : Nat} {cs : List Value} (h : w.rangeAt b o cs) {a : Addr} (hne : a.block ≠ b) (v : Value) : (w.setCell a v).rangeAt b o cs := fun j u hu => by
  rw [World.cell?_setCell_other w a v (b := ⟨b, o + j, none⟩) (fun e => hne (by rw [e]))]
  exact h j u hu
theorem heap_drew (w : World) : w.drew.heap = w.heap := rfl
end Go.Proofs.YtgebekklkodpaaaDoor
