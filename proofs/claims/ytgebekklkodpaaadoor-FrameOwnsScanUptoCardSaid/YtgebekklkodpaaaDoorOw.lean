/- concordmem.Own -/
import Derived.Test.YtgebekklkodpaaaDoorOg
import Derived.Deep.RegionHeldLaw
namespace Go.Proofs.YtgebekklkodpaaaDoor
open Go.RowKit

/-- the headers of some rows, in a block of their own -/
def Heads (w : World) (L : Nat) (vs : List Value) : Prop := ∃ cs : Array Value, w.heap[L]? = some (.cells cs 25 (0, 0)) ∧ ∀ (k : Nat) (v : Value), vs[k]? = some v → cs[k]? = some v
def mrow (i n : Nat) : List Nat := (List.range n).map (mb i)
theorem mrow_len (i n : Nat) : (mrow i n).length = n := by simp [mrow]
theorem mrow_lt (i n : Nat) : ∀ x ∈ mrow i n, x < 256 := by
  intro x hx
  simp only [mrow, List.mem_map, List.mem_range] at hx
  obtain ⟨j, _, rfl⟩ := hx
  exact mb_lt i j
theorem mrow_succ (i n : Nat) : mrow i (n + 1) = mrow i n ++ [mb i n] := by simp [mrow, List.range_succ]
theorem mrow_get (i n j : Nat) (h : j < n) : (mrow i n)[j]? = some (mb i j) := by simp [mrow, h]
theorem heads_cell {w : World} {L : Nat} {vs : List Value} (h : Heads w L vs) {k : Nat} {v : Value} (hv : vs[k]? = some v) : w.cell? ⟨L, k, none⟩ = some v := by
  obtain ⟨cs, hh, hc⟩ := h
  rw [cell_at hh]
  exact hc k v hv
theorem heads_free {w : World} {L : Nat} {vs : List Value} (h : Heads w L vs) (k : Nat) : w.frozen? ⟨L, k, none⟩ = false := by
  obtain ⟨cs, hh, hc⟩ := h
  exact free_at hh k
theorem heads_set {w : World} {L : Nat} {vs : List Value} (h : Heads w L vs) (k : Nat) (v : Value) : Heads (w.setCell ⟨L, k, none⟩ v) L (vs.set k v) := by
  obtain ⟨cs, hh, hc⟩ := h
  refine ⟨_, heap_set hh v, fun j u hj => ?_⟩
  by_cases hjk : j = k
  · subst hjk
    have hl : j < vs.length := by have := (List.getElem?_eq_some_iff.1 hj).1; simpa using this
    rw [List.getElem?_set_self hl, Option.some.injEq] at hj
    subst hj
    have hl2 : j < cs.size := by
      have := hc j vs[j] (List.getElem?_eq_getElem hl)
      exact (Array.getElem?_eq_some_iff.1 this).1
    rw [Array.getElem?_setIfInBounds_self_of_lt hl2]
  · rw [List.getElem?_set_ne (fun e => hjk e.symm)] at hj
    rw [Array.getElem?_setIfInBounds_ne (fun e => hjk e.symm)]
    exact hc j u hj
theorem heads_block {w w' : World} {L : Nat} {vs : List Value} (h : Heads w L vs) (hb : w'.heap[L]? = w.heap[L]?) : Heads w' L vs := by
  obtain ⟨cs, hh, hc⟩ := h
  exact ⟨cs, hb.trans hh, hc⟩
theorem heads_lt {w : World} {L : Nat} {vs : List Value} (h : Heads w L vs) : L < w.heap.size := by
  obtain ⟨cs, hh, hc⟩ := h
  exact heap_lt hh
theorem heads_rows {w : World} {B L : Nat} {vs : List Value} {rows : List Rw} (h : Heads w L vs) (hF : Fam w B rows) : ¬ InRows rows L := by
  rintro ⟨k, r, hr, hg⟩
  obtain ⟨cs, hh, _⟩ := h
  exact own_type (hF.1 k r hr).1 hh (by decide) hg
/-- headers stay where a row grows -/
theorem heads_grown {w w' : World} {B L x g cap : Nat} {vs : List Value} {v : Value} {bs : List Nat} (h : Heads w L vs) (ho : Own w B v bs) (hg : Grown w B v bs x g cap w') : Heads w' L vs := by
  refine heads_block h ?_
  rcases hg.2 with ⟨rfl, h1⟩ | ⟨_, h1⟩
  · refine h1.block L (heads_lt h) (fun e => ?_)
    obtain ⟨cs, hh, _⟩ := h
    exact own_type ho hh (by decide) (by rw [e]; rfl)
  · exact h1.block L (heads_lt h)

/-- the rows of which the first i are marked, and of row i the first j bytes -/
def marked (rows : List Rw) (i j : Nat) : List Rw := rows.mapIdx fun k r => (r.1, if k < i then mrow k r.2.length else if k = i then mrow i j ++ r.2.drop j else r.2)
theorem marked_len (rows : List Rw) (i j : Nat) : (marked rows i j).length = rows.length := by simp [marked]
theorem marked_get (rows : List Rw) (i j k : Nat) : (marked rows i j)[k]? = rows[k]?.map fun r => (r.1, if k < i then mrow k r.2.length else if k = i then mrow i j ++ r.2.drop j else r.2) := by simp [marked]
theorem marked_zero (rows : List Rw) : marked rows 0 0 = rows := by
  apply List.ext_getElem?
  intro k
  rw [marked_get]
  cases hk : rows[k]? with
  | none => rfl
  | some r =>
    simp only [Option.map_some, Nat.not_lt_zero, if_false, Option.some.injEq]
    by_cases h : k = 0
    · subst h; simp [mrow]
    · rw [if_neg h]
theorem marked_next (rows : List Rw) (i : Nat) (r : Rw) (h : rows[i]? = some r) : marked rows i r.2.length = marked rows (i + 1) 0 := by
  apply List.ext_getElem?
  intro k
  rw [marked_get, marked_get]
  cases hk : rows[k]? with
  | none => rfl
  | some r' =>
    simp only [Option.map_some, Option.some.injEq, Prod.mk.injEq, true_and]
    rcases Nat.lt_trichotomy k i with h1 | h1 | h1
    · rw [if_pos h1, if_pos (by omega)]
    · subst h1
      rw [if_neg (by omega), if_pos rfl, if_pos (by omega)]
      obtain rfl : r = r' := Option.some.inj (h.symm.trans hk)
      simp
    · rw [if_neg (by omega), if_neg (by omega), if_neg (by omega)]
      by_cases h2 : k = i + 1
      · rw [if_pos h2]; simp [mrow]
      · rw [if_neg h2]
theorem marked_step (rows : List Rw) (i j : Nat) (r : Rw) (h : rows[i]? = some r) (hj : j < r.2.length) :
    (marked rows i j).set i (r.1, (mrow i j ++ r.2.drop j).set j (mb i j)) = marked rows i (j + 1) := by
  have hil := (List.getElem?_eq_some_iff.1 h).1
  apply List.ext_getElem?
  intro k
  by_cases hk : k = i
  · subst hk
    rw [List.getElem?_set_self (by rw [marked_len]; exact hil), marked_get, h]
    simp only [Option.map_some, Option.some.injEq, Prod.mk.injEq, true_and]
    rw [if_neg (by omega), if_pos trivial, mrow_succ, List.append_assoc]
    rw [List.set_append_right _ _ (by rw [mrow_len]; exact Nat.le_refl _), mrow_len, Nat.sub_self]
    rw [List.drop_eq_getElem_cons hj]
    rfl
  · rw [List.getElem?_set_ne (fun e => hk e.symm), marked_get, marked_get]
    cases hr : rows[k]? with
    | none => rfl
    | some r' => simp only [Option.map_some, if_neg hk]
/-- what the rows hold while they grow -/
def Cont (rows cur : List Rw) (i q : Nat) : Prop := ∀ (k : Nat) (r : Rw), rows[k]? = some r → ∃ v, cur[k]? = some (v, mrow k (r.2.length + if k < i then q + 1 else q))
theorem cont_start (rows : List Rw) (n : Nat) (hn : rows.length = n) : Cont rows (marked rows n 0) 0 0 := by
  intro k r hr
  have hk := (List.getElem?_eq_some_iff.1 hr).1
  exact ⟨r.1, by rw [marked_get, hr]; simp; omega⟩
theorem cont_next {rows cur : List Rw} {n q : Nat} (hn : rows.length = n) (h : Cont rows cur n q) : Cont rows cur 0 (q + 1) := by
  intro k r hr
  have hk := (List.getElem?_eq_some_iff.1 hr).1
  obtain ⟨v, hv⟩ := h k r hr
  exact ⟨v, by rw [hv, if_pos (by omega), if_neg (by omega)]⟩
theorem cont_step {rows cur : List Rw} {i q : Nat} {r : Rw} {v : Value} (h : Cont rows cur i q) (hr : rows[i]? = some r) (hil : i < cur.length) :
    Cont rows (cur.set i (v, mrow i (r.2.length + q) ++ [mb i (r.2.length + q)])) (i + 1) q := by
  intro k r' hr'
  by_cases hk : k = i
  · subst hk
    obtain rfl : r = r' := Option.some.inj (hr.symm.trans hr')
    refine ⟨v, ?_⟩
    rw [List.getElem?_set_self hil, if_pos (by omega), ← mrow_succ]
    rfl
  · obtain ⟨u, hu⟩ := h k r' hr'
    refine ⟨u, ?_⟩
    rw [List.getElem?_set_ne (fun e => hk e.symm), hu]
    by_cases h1 : k < i
    · rw [if_pos h1, if_pos (by omega)]
    · rw [if_neg h1, if_neg (by omega)]
theorem info25 : (Tryd.prog.info? 25).map (fun i => (i.zero, i.size, i.bytes)) = some (some (.slice none 0 0), 1, 24) := by kernel_rfl
end Go.Proofs.YtgebekklkodpaaaDoor
