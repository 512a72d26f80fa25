/- heights -/
import Derived.Test.YtbimpoabiafdaaaDoorMt
namespace Go.Proofs.YtbimpoabiafdaaaDoor
open Go.RowKit Vf

theorem info3 : (Tryd.prog.info? 3).map (fun i => (i.zero, i.size, i.bytes)) = some (some (.int .i64 0), 1, 8) := by kernel_rfl
/-- the cells of a full row -/
theorem row_full' {w : World} {B g n : Nat} {e : TypeId} {xs : List Value} (h : w.ownsRow B e 1 (.slice (some ⟨g, 0, none⟩) n n) n xs) : w.heap[g]? = some (.cells xs.toArray e (0, 0)) := by
  rcases h.2 with ⟨h0, _⟩ | ⟨g', cap, cur, hv, _, hg, _, _, hs, ht⟩
  · cases h0
  · simp only [Value.slice.injEq, Option.some.injEq, Addr.mk.injEq] at hv
    obtain ⟨⟨rfl, _⟩, _, rfl⟩ := hv
    rw [hg]
    have : cur.toList = xs := by rw [← ht, List.take_of_length_le (by simp; omega)]
    rw [← this]
/-- a list that is being filled with -1 -/
def fillL (n j : Nat) : List Value := (List.range n).map fun k => .int .i64 (if k < j then -1 else 0)
theorem fill_start (n : Nat) : (madeCells #[Value.int IntKind.i64 0] n).toList = fillL n 0 := by
  apply List.ext_getElem?
  intro k
  by_cases hk : k < n
  · simp [madeCells, fillL, hk, Nat.mod_one]
  · rw [List.getElem?_eq_none (by simp [madeCells]; omega), List.getElem?_eq_none (by simp [fillL]; omega)]
theorem fill_set (n j : Nat) (hj : j < n) : (fillL n j).toArray.setIfInBounds j (.int .i64 (-1)) = (fillL n (j + 1)).toArray := by
  rw [List.setIfInBounds_toArray]
  congr 1
  apply List.ext_getElem?
  intro k
  rw [List.getElem?_set]
  by_cases hk : k < n
  · by_cases e : j = k
    · subst e
      simp [fillL, hk]
    · rw [if_neg e]
      simp only [fillL, List.getElem?_map, List.getElem?_range hk, Option.map_some]
      by_cases h1 : k < j
      · rw [if_pos h1, if_pos (by omega)]
      · rw [if_neg h1, if_neg (by omega)]
  · rw [if_neg (by omega), List.getElem?_eq_none (by simp [fillL]; omega), List.getElem?_eq_none (by simp [fillL]; omega)]
theorem fill_end (n : Nat) (h : 0 < n) : (fillL n n).toArray.setIfInBounds 0 (.int .i64 0) = (ats (at0 n)).toArray := by
  rw [List.setIfInBounds_toArray]
  congr 1
  apply List.ext_getElem?
  intro k
  rw [List.getElem?_set]
  by_cases hk : k < n
  · cases k with
    | zero => simp [fillL, ats, at0, atI, h]
    | succ k =>
      rw [if_neg (by omega)]
      simp only [fillL, ats, at0, List.getElem?_map, List.getElem?_range hk, Option.map_some, if_pos hk, List.getElem?_cons_succ]
      rw [List.getElem?_replicate, if_pos (by omega)]
      rfl
  · rw [if_neg (by omega), List.getElem?_eq_none (by simp [fillL]; omega), List.getElem?_eq_none (by simp [ats, at0]; omega)]
/-- what an instruction's effect leaves -/
def EffCut (x : Ins) (q : Nat) (w : World) (s t : Value) (w' : World) : Prop :=
  (∃ (z : Int) (b : Bool), s = .int .i64 z ∧ t = .bool b ∧ match eff x q with
    | some h' => b = true ∧ z = (h' : Int)
    | none => b = false) ∧ Below w.heap.size w w'
/-- numbers as cells -/
def nats (H : List Nat) : List Value := H.map fun (h : Nat) => .int .i64 (h : Int)
theorem ats_some (H : List Nat) : ats (H.map some) = nats H := by simp [ats, nats, atI]
/-- what heights answers -/
def HtOut (P : Prg) (B : Nat) (e : Ending) (w' : World) : Prop :=
  match ans P with
  | none => e = .returned (.tuple #[.slice none 0 0, .int .i64 0])
  | some H => ∃ g, B ≤ g ∧ e = .returned (.tuple #[.slice (some ⟨g, 0, none⟩) H.length H.length, .int .i64 (mx H : Nat)]) ∧ w'.heap[g]? = some (.cells (nats H).toArray 3 (0, 0))
/-- the greatest height up to i -/
def mxTo (at_ : At) (i : Nat) : Nat := mx ((at_.take (i + 1)).map (·.getD 0))
theorem mxTo_step {at_ : At} {i h : Nat} (hi : at_[i + 1]? = some (some h)) : mxTo at_ (i + 1) = max (mxTo at_ i) h := by
  unfold mxTo
  rw [List.take_add_one, hi, Option.toList_some, List.map_append, List.map_singleton, mx_snoc]
  rfl
theorem mxTo_set {at_ : At} {i k : Nat} (o : Option Nat) (h : i < k) : mxTo (at_.set k o) i = mxTo at_ i := by
  unfold mxTo
  rw [List.take_set_of_le (by omega)]
theorem mxTo_ge {at_ : At} {i h : Nat} (hi : at_[i]? = some (some h)) : h ≤ mxTo at_ i := by
  unfold mxTo
  refine mx_le (List.mem_map.2 ⟨some h, ?_, rfl⟩)
  refine List.mem_iff_getElem?.2 ⟨i, ?_⟩
  rw [List.getElem?_take, if_pos (by omega)]
  exact hi
theorem mxTo_end {H : List Nat} {i : Nat} (h : H.length = i + 1) : mxTo (H.map some) i = mx H := by
  unfold mxTo
  rw [List.take_of_length_le (by simp; omega), List.map_map]
  congr 1
  simp [Function.comp_def]
theorem prog_cells {w : World} {p : Nat} {cs : Array Value} (h : w.heap[p]? = some (.cells cs 27 (0, 0))) {w' : World} (hk : KeepTy w w' 27) : w'.heap[p]? = some (.cells cs 27 (0, 0)) := hk _ _ _ h
theorem eff_lt {a b c : Nat} {x : Ins} {g h' : Nat} (h : eff x g = some h') (ho : opnd (a, b, c) x = true) : h' ≤ g + 1 := by
  unfold eff at h
  unfold opnd at ho
  split at h
  · split at h <;> simp at h; omega
  · split at h
    · simp at h; omega
    · split at h
      · split at h <;> simp at h; omega
      · split at h
        · rename_i h14
          split at h <;> simp at h
          rw [if_neg (by omega), if_neg (by omega), if_neg (by omega), if_pos h14] at ho
          simp at ho
          omega
        · split at h <;> simp at h; omega
end Go.Proofs.YtbimpoabiafdaaaDoor
