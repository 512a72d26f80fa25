/- the reference's Decode of any list; what Decode's errors are -/
import Derived.Test.YtgebekklkodpaaaDoorRefDc
import Derived.Test.YtgebekklkodpaaaDoorLives
namespace Go.Proofs.YtgebekklkodpaaaDoor
open Go.RowKit

theorem ref_decode_any (w : World) (v : Value) (bs : List Nat) (hs : Src w v bs) (hl : bs.length ≤ 140737488355328) :
    Calls Tryd.prog 36 #[v] w fun e w' => RefDecOut w.heap.size bs e w' ∧ Below w.heap.size w w' := by
  obtain ⟨ao, cap, rfl⟩ := src_form hs
  cases bs with
  | nil => exact ref_decode_nil w ao cap
  | cons t r =>
    obtain ⟨ad, rfl, hc⟩ := src_cell hs (show (t :: r)[0]? = some t from rfl)
    rw [Addr.add_zero'] at hc
    have hl' : r.length < 140737488355328 := by simp only [List.length_cons] at hl; omega
    by_cases ht : t = 0
    · subst ht
      exact ref_decode_zero w ad cap r hl' hc
    · by_cases hc1 : cap = 1
      · subst hc1
        have hr : r = [] := by
          rcases hs.2 with ⟨h, _⟩ | ⟨ad', c', h, ha, hb, _⟩
          · simp at h
          · simp only [Value.slice.injEq] at h
            have h3 := h.2.2
            rw [← h3] at ha
            exact List.eq_nil_of_length_eq_zero (by simp only [List.length_cons] at ha; omega)
        subst hr
        exact ref_decode_one w ad t ht hc
      · exact ref_decode_some w ad cap t r hs ht hl' hc1
theorem dec_inl {b : List Nat} {g : Nat} (h : dec b = .inl g) : g = 0 ∨ g = 1 ∨ g = 2 ∨ g = 6 := by
  cases b with
  | nil => simp [dec] at h; omega
  | cons t r =>
    rw [dec] at h
    split at h
    · simp at h; omega
    · split at h
      · rename_i hn
        simp only [Sum.inl.injEq] at h
        rcases Nm.num_err (f := 10) (i := 0) r with h0 | h0 | h0
        · exact absurd h0 hn
        · rw [h0] at h; simp at h; omega
        · rw [h0] at h; simp at h; omega
      · split at h
        · simp at h; omega
        · split at h
          · simp at h; omega
          · simp at h
/-- the number of an error of Decode -/
theorem num_dec (w : World) (E : Nat → Addr) (h : Errs w E allErrs) {b : List Nat} {g : Nat} (hd : dec b = .inl g) :
    Calls Tryd.prog 26 #[.iface 124 (.pointer (some (E g)))] w fun e w' => e = .returned (.int .i64 (errNum g : Nat)) ∧ w = w' := by
  rcases dec_inl hd with rfl | rfl | rfl | rfl
  · exact num_0 w E h
  · exact num_1 w E h
  · exact num_2 w E h
  · exact num_6 w E h
end Go.Proofs.YtgebekklkodpaaaDoor
