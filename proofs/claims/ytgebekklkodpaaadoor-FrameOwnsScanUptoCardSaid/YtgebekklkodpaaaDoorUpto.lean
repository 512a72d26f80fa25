/- the second form's bulk -/
import Derived.Test.YtgebekklkodpaaaDoorOpen
namespace Go.Proofs.YtgebekklkodpaaaDoor
open Go.Proofs.YtgebekklkodpaaaDoor.Rows

theorem bulk_pos {H : Type} (d : DataW H) : 1 ≤ uptoBulk d := by
  cases d with
  | lit l => cases l <;> simp [uptoBulk]
  | _ => simp [uptoBulk]
theorem bulk_len {H : Type} (l : List (DataW H)) : l.length ≤ uptoBulkAll l := by
  induction l with
  | nil => simp
  | cons d r ih =>
    have := bulk_pos d
    rw [uptoBulkAll, List.length_cons]
    omega
theorem bulk_get {H : Type} {l : List (DataW H)} {j : Nat} {d : DataW H} (h : l[j]? = some d) : uptoBulk d ≤ uptoBulkAll l := by
  induction l generalizing j with
  | nil => simp at h
  | cons x r ih =>
    rw [uptoBulkAll]
    cases j with
    | zero => simp at h; subst h; omega
    | succ j => have := ih (j := j) (by simpa using h); omega
theorem small_le {H : Type} {ds : List (DataW H)} (hk : uptoSmall H ds = true) : uptoBulkAll ds ≤ 1048576 := of_decide_eq_true hk
theorem small_bytes {H : Type} {ds : List (DataW H)} (hk : uptoSmall H ds = true) {j : Nat} {d : DataW H} {bs : List Nat} (hd : ds[j]? = some d)
    (h : (d = .nil ∧ bs = []) ∨ ∃ elems sp, d = .slice elems sp ∧ elems.length = bs.length) : bs.length ≤ 1048576 := by
  have h1 := small_le hk
  have h2 := bulk_get hd
  rcases h with ⟨_, rfl⟩ | ⟨elems, sp, rfl, hl⟩
  · simp
  · rw [uptoBulk] at h2
    have := bulk_len elems
    omega
end Go.Proofs.YtgebekklkodpaaaDoor
