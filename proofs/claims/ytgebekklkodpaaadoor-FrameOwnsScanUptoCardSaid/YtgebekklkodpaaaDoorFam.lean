/- plain: a family of own rows of bytes, each in a block of its own -/
import Derived.Test.YtgebekklkodpaaaDoorMk
namespace Go.Proofs.YtgebekklkodpaaaDoor
open Go.RowKit

/-- a cell of an own row is written -/
theorem own_put {w : World} {B g n cap : Nat} {bs : List Nat} (h : Own w B (.slice (some ⟨g, 0, none⟩) n cap) bs) (j y : Nat) :
    Own (w.setCell ⟨g, j, none⟩ (.int .u8 (y : Nat))) B (.slice (some ⟨g, 0, none⟩) n cap) (bs.set j y) := by
  unfold Own at *
  rw [List.length_set]
  obtain ⟨hl, h⟩ := h
  refine ⟨by simp [u8s], ?_⟩
  rcases h with ⟨h, _⟩ | ⟨g', cap', cur, hv, hb, hh, hn, hm, hs, ht⟩
  · simp at h
  · simp only [Value.slice.injEq, Option.some.injEq, Addr.mk.injEq] at hv
    obtain ⟨⟨rfl, _⟩, rfl, rfl⟩ := hv
    refine .inr ⟨g, cap, cur.setIfInBounds j (.int .u8 (y : Nat)), rfl, hb, heap_set hh _, hn, hm, by rw [Array.size_setIfInBounds]; exact hs, ?_⟩
    rw [Array.toList_setIfInBounds, List.take_set, ht]
    simp [u8s, List.map_set]
/-- a cell of another block is written -/
theorem own_far {w : World} {B : Nat} {v : Value} {bs : List Nat} (h : Own w B v bs) (a : Addr) (x : Value) (hne : v.ownBlock ≠ some a.block) : Own (w.setCell a x) B v bs := by
  obtain ⟨hl, h⟩ := h
  refine ⟨hl, ?_⟩
  rcases h with h | ⟨g, cap, cur, rfl, hb, hh, hn⟩
  · exact .inl h
  · refine .inr ⟨g, cap, cur, rfl, hb, heap_far hh (fun e => hne ?_) x, hn⟩
    rw [← e]
    rfl
/-- own rows, pairwise apart -/
def Fam (w : World) (B : Nat) (rows : List (Value × List Nat)) : Prop :=
  (∀ (i : Nat) (r : Value × List Nat), rows[i]? = some r → Own w B r.1 r.2 ∧ ∀ x ∈ r.2, x < 256) ∧
    ∀ (i j : Nat) (r s : Value × List Nat), i ≠ j → rows[i]? = some r → rows[j]? = some s → ∀ g, r.1.ownBlock = some g → s.1.ownBlock ≠ some g
theorem fam_keep {w w' : World} {B : Nat} {rows : List (Value × List Nat)} (h : Fam w B rows) (hb : Below w.heap.size w w') : Fam w' B rows :=
  ⟨fun i r hr => ⟨own_keep (h.1 i r hr).1 hb, (h.1 i r hr).2⟩, h.2⟩
theorem fam_put {w : World} {B g n cap : Nat} {rows : List (Value × List Nat)} {bs : List Nat} (h : Fam w B rows) (i j y : Nat) (hi : rows[i]? = some (.slice (some ⟨g, 0, none⟩) n cap, bs)) (hy : y < 256) :
    Fam (w.setCell ⟨g, j, none⟩ (.int .u8 (y : Nat))) B (rows.set i (.slice (some ⟨g, 0, none⟩) n cap, bs.set j y)) := by
  obtain ⟨h1, h2⟩ := h
  have hil := (List.getElem?_eq_some_iff.1 hi).1
  refine ⟨fun k r hr => ?_, fun k l r s hkl hr hs => ?_⟩
  · by_cases hk : k = i
    · subst hk
      rw [List.getElem?_set_self hil, Option.some.injEq] at hr
      subst hr
      refine ⟨own_put (h1 k _ hi).1 j y, fun x hx => ?_⟩
      rcases List.mem_or_eq_of_mem_set hx with h | h
      · exact (h1 k _ hi).2 x h
      · omega
    · rw [List.getElem?_set_ne (fun e => hk e.symm)] at hr
      exact ⟨own_far (h1 k r hr).1 _ _ (h2 i k _ r (fun e => hk e.symm) hi hr g rfl), (h1 k r hr).2⟩
  · have row : ∀ (m : Nat) (q : Value × List Nat), (rows.set i (.slice (some ⟨g, 0, none⟩) n cap, bs.set j y))[m]? = some q → ∃ bs', rows[m]? = some (q.1, bs') := by
      intro m q hq
      by_cases hm : m = i
      · subst hm
        rw [List.getElem?_set_self hil, Option.some.injEq] at hq
        subst hq
        exact ⟨bs, hi⟩
      · rw [List.getElem?_set_ne (fun e => hm e.symm)] at hq
        exact ⟨q.2, hq⟩
    obtain ⟨b1, hr'⟩ := row k r hr
    obtain ⟨b2, hs'⟩ := row l s hs
    exact h2 k l (r.1, b1) (s.1, b2) hkl hr' hs'
/-- one row grows -/
theorem fam_grow {w w' : World} {B g : Nat} {rows : List (Value × List Nat)} {v v' : Value} {bs bs' : List Nat} (h : Fam w B rows) (i : Nat) (hi : rows[i]? = some (v, bs)) (hown : Own w' B v' bs') (hx : ∀ x ∈ bs', x < 256)
    (hg : w.grownBy w' v.ownBlock) (hv' : v'.ownBlock = some g) (hat : v.ownBlock = some g ∨ g = w.heap.size) : Fam w' B (rows.set i (v', bs')) := by
  obtain ⟨h1, h2⟩ := h
  have hil := (List.getElem?_eq_some_iff.1 hi).1
  have lt : ∀ (k : Nat) (r : Value × List Nat), rows[k]? = some r → ∀ q, r.1.ownBlock = some q → q < w.heap.size := fun k r hr q hq => (World.ownsRow.lt (h1 k r hr).1 q hq).2
  have new : ∀ (k : Nat) (r : Value × List Nat), k ≠ i → rows[k]? = some r → r.1.ownBlock ≠ some g := by
    intro k r hk hr e
    rcases hat with h | h
    · exact h2 k i r _ hk hr hi g e h
    · have := lt k r hr g e
      omega
  refine ⟨fun k r hr => ?_, fun k l r s hkl hr hs q hq => ?_⟩
  · by_cases hk : k = i
    · subst hk
      rw [List.getElem?_set_self hil, Option.some.injEq] at hr
      subst hr
      exact ⟨hown, hx⟩
    · rw [List.getElem?_set_ne (fun e => hk e.symm)] at hr
      refine ⟨World.ownsRow.kept (h1 k r hr).1 hg ?_, (h1 k r hr).2⟩
      cases hb : r.1.ownBlock with
      | none => exact .inl rfl
      | some q => exact .inr (fun e => h2 k i r _ hk hr hi q hb e.symm)
  · by_cases hk : k = i
    · subst hk
      rw [List.getElem?_set_self hil, Option.some.injEq] at hr
      subst hr
      rw [List.getElem?_set_ne hkl] at hs
      have : q = g := Option.some.inj (hq.symm.trans hv')
      subst this
      exact new l s (fun e => hkl e.symm) hs
    · rw [List.getElem?_set_ne (fun e => hk e.symm)] at hr
      by_cases hl : l = i
      · subst hl
        rw [List.getElem?_set_self hil, Option.some.injEq] at hs
        subst hs
        rw [hv']
        intro e
        obtain rfl := Option.some.inj e
        exact new k r hk hr hq
      · rw [List.getElem?_set_ne (fun e => hl e.symm)] at hs
        exact h2 k l r s hkl hr hs q hq
end Go.Proofs.YtgebekklkodpaaaDoor
