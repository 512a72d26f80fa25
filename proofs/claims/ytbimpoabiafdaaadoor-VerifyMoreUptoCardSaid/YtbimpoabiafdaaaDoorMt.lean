/- the heights as they are laid: meet -/
import Derived.Test.YtbimpoabiafdaaaDoorTr
namespace Go.Proofs.YtbimpoabiafdaaaDoor
open Go.RowKit Vf

def atI : Option Nat → Int
  | none => -1
  | some h => (h : Int)
/-- heights as cells: -1 where none is laid yet -/
def ats (at_ : At) : List Value := at_.map fun o => .int .i64 (atI o)
theorem ats_len (at_ : At) : (ats at_).length = at_.length := by simp [ats]
theorem ats_get {at_ : At} {i : Nat} {o : Option Nat} (h : at_[i]? = some o) : (ats at_).toArray[i]? = some (.int .i64 (atI o)) := by simp [ats, h]
theorem ats_set (at_ : At) (i h : Nat) : (ats at_).toArray.setIfInBounds i (.int .i64 (h : Nat)) = (ats (at_.set i (some h))).toArray := by
  simp [ats, List.map_set, atI]
/-- the heights lie here -/
structure Laid (w : World) (A g : Nat) (at_ : At) : Prop where
  box : w.heap[A]? = some (.cells #[.slice (some ⟨g, 0, none⟩) at_.length at_.length] 22 (0, 0))
  row : w.heap[g]? = some (.cells (ats at_).toArray 3 (0, 0))
theorem laid_keepTy {w w' : World} {A g : Nat} {at_ : At} (h : Laid w A g at_) (h1 : KeepTy w w' 22) (h2 : KeepTy w w' 3) : Laid w' A g at_ := ⟨h1 _ _ _ h.box, h2 _ _ _ h.row⟩
theorem laid_keep {w w' : World} {A g : Nat} {at_ : At} (h : Laid w A g at_) (hb : Below w.heap.size w w') : Laid w' A g at_ := laid_keepTy h (keepTy_below hb 22) (keepTy_below hb 3)
theorem fits_set {at_ : At} {i h : Nat} (hf : at_[i]? = some (some h)) : at_.set i (some h) = at_ := by
  apply List.ext_getElem?
  intro j
  rw [List.getElem?_set]
  split
  · rename_i e
    subst e
    rw [if_pos (List.getElem?_eq_some_iff.1 hf).1, hf]
  · rfl
/-- what meet answers -/
def MeetOut (w : World) (A g B : Nat) (at_ : At) (i h : Nat) (e : Ending) (w' : World) : Prop :=
  ((fits at_ i h ∧ e = .returned (.bool true) ∧ Laid w' A g (at_.set i (some h))) ∨ (¬ fits at_ i h ∧ e = .returned (.bool false))) ∧ Below B w w' ∧ ∀ t, 3 ≠ t → KeepTy w w' t
set_option maxRecDepth 100000 in
set_option maxHeartbeats 1000000 in
theorem meet_any (w : World) (A g B : Nat) (at_ : At) (L : Laid w A g at_) (hB : B ≤ g) (i h : Nat) (hi : i < at_.length) :
    Calls Tryd.prog 37 #[.int .i64 i, .int .i64 h, .pointer (some ⟨A, 0, none⟩)] w (MeetOut w A g B at_ i h) := by
  obtain ⟨o, ho⟩ : ∃ o, at_[i]? = some o := ⟨_, List.getElem?_eq_getElem hi⟩
  have hbx : w.cell? ⟨A, 0, none⟩ = some (.slice (some ⟨g, 0, none⟩) at_.length at_.length) := by rw [cell_at L.box]; rfl
  have hc : w.cell? ⟨g, i, none⟩ = some (.int .i64 (atI o)) := by rw [cell_at L.row]; exact ats_get ho
  have hf := free_at L.row i
  have HL := hide L
  have HO := hide ho
  have hne : A ≠ g := by
    rintro rfl
    have := L.box.symm.trans L.row
    simp only [Option.some.injEq, Obj.cells.injEq] at this
    exact absurd this.2.1 (by decide)
  clear L ho
  cases o with
  | none =>
    have hgs := heap_set (i := i) HL.out.row (.int .i64 (h : Nat))
    rw [ats_set] at hgs
    have hbs := (keepTy_at (i := i) HL.out.row (show (3 : TypeId) ≠ 22 by decide) (.int .i64 (h : Nat))) _ _ _ HL.out.box
    have HB := hide (below_set (i := i) (Below.refl B w) hB (.int .i64 (h : Nat)))
    have HK := hide (fun (t : TypeId) (ht : 3 ≠ t) => keepTy_at (i := i) HL.out.row ht (.int .i64 (h : Nat)))
    have HLD := hide (show Laid (w.setCell ⟨g, i, none⟩ (.int .i64 (h : Nat))) A g (at_.set i (some h)) from ⟨by rw [List.length_set]; exact hbs, hgs⟩)
    have hbx2 : (w.setCell ⟨g, i, none⟩ (.int .i64 (h : Nat))).cell? ⟨A, 0, none⟩ = some (.slice (some ⟨g, 0, none⟩) at_.length at_.length) := by rw [cell_at hbs]; rfl
    have hc2 : (w.setCell ⟨g, i, none⟩ (.int .i64 (h : Nat))).cell? ⟨g, i, none⟩ = some (.int .i64 (h : Nat)) := by
      rw [cell_at hgs, ats_get (o := some h)]
      · rfl
      · rw [List.getElem?_set, if_pos rfl, if_pos hi]
    have ea : atI none = -1 := rfl
    rw [ea] at hc
    clear hbs hgs
    go_enter Tryd.func37, Tryd.ntmps37
    go_wp2_with fail
    go_ret
    exact ⟨.inl ⟨.inl HO.out, rfl, HLD.out⟩, HB.out, HK.out⟩
  | some h0 =>
    have ea : atI (some h0) = (h0 : Int) := rfl
    rw [ea] at hc
    by_cases hh : h0 = h
    · subst hh
      have HLD := hide (show Laid w A g (at_.set i (some h0)) from by rw [fits_set HO.out]; exact HL.out)
      go_enter Tryd.func37, Tryd.ntmps37
      go_wp2_with fail
      go_ret
      exact ⟨.inl ⟨.inr HO.out, rfl, HLD.out⟩, Below.refl _ _, fun t _ => keepTy_refl w t⟩
    · have e1 : ((h0 : Int) == (h : Int)) = false := by simp; omega
      have HNF := hide (show ¬ fits at_ i h from fun hf => by
        rcases hf with hf | hf
        · rw [HO.out] at hf; cases hf
        · rw [HO.out] at hf; simp at hf; exact hh hf)
      go_enter Tryd.func37, Tryd.ntmps37
      go_wp2_with fail
      go_ret
      exact ⟨.inr ⟨HNF.out, by simp⟩, Below.refl _ _, fun t _ => keepTy_refl w t⟩
end Go.Proofs.YtbimpoabiafdaaaDoor
