/- plain: rows that Own is asked of -/
import Derived.Test.YtgebekklkodpaaaDoorOwW
import Derived.Test.YtgebekklkodpaaaDoorDcAny
import Derived.Deep.OwnRows
import Derived.Laws.CopyOwn
namespace Go.Proofs.YtgebekklkodpaaaDoor
open Go.RowKit

/-- a block known whole is an own row -/
theorem own_block {w : World} {B g : Nat} {bs : List Nat} (h : w.heap[g]? = some (.cells (u8s bs).toArray 5 (0, 0))) (hB : B ≤ g) (hl : bs.length ≤ 9223372036854775807) : Own w B (.slice (some ⟨g, 0, none⟩) bs.length bs.length) bs := by
  have h := row_of_heap h hB (by rw [u8s_len]; exact hl)
  rw [u8s_len] at h
  exact h
/-- the part with which a block begins -/
theorem own_front {w : World} {B g : Nat} {bs rest : List Nat} (h : w.heap[g]? = some (.cells (u8s (bs ++ rest)).toArray 5 (0, 0))) (hB : B ≤ g) (cap : Nat) (hc : cap = bs.length + rest.length) (hl : bs.length + rest.length ≤ 9223372036854775807) :
    Own w B (.slice (some ⟨g, 0, none⟩) bs.length cap) bs := by
  subst hc
  refine ⟨by simp [u8s], .inr ⟨g, _, _, rfl, hB, h, by omega, by simpa [maxLen] using hl, by simp [u8s], ?_⟩⟩
  simp [u8s]
theorem rows3 {P : Rw → Prop} {a b c : Rw} (ha : P a) (hb : P b) (hc : P c) : ∀ (k : Nat) (r : Rw), [a, b, c][k]? = some r → P r := by
  intro k r hk
  match k, hk with
  | 0, hk => simp at hk; exact hk ▸ ha
  | 1, hk => simp at hk; exact hk ▸ hb
  | 2, hk => simp at hk; exact hk ▸ hc
theorem own_news {w : World} {B g n cap : Nat} {bs : List Nat} (h : Own w B (.slice (some ⟨g, 0, none⟩) n cap) bs) : ∀ (j : Nat) (u : Value), (u8s bs)[j]? = some u → w.cell? ((⟨g, 0, none⟩ : Addr).add j) = some u :=
  World.ownsRow.cells h (g := g) rfl
set_option maxRecDepth 100000 in
/-- append, as an equation -/
theorem run_append_any (w : World) (B : Nat) (ty : TypeId) (v : Value) (cur : List Nat) (hown : Own w B v cur) (ad : Addr) (m c : Nat) (bs : List Nat) (hm : bs.length = m) (hnew : ∀ (j : Nat) (u : Value), (u8s bs)[j]? = some u → w.cell? (ad.add j) = some u)
    (hl : cur.length + bs.length ≤ 140737488355328) (hB : B ≤ w.heap.size) :
    ∃ v' w', (Builtin.append_ #[25, 25] ty #[v, .slice (some ad) m c]).run Tryd.prog w = .ok v' w' ∧ Own w' B v' (cur ++ bs) ∧ Below B w w' := by
  obtain ⟨i0, hi, hz0, hz1, hz2⟩ := info_parts info5
  subst hm
  obtain ⟨v', w', hrun, h1, h2, _⟩ := run_append_own (P := Tryd.prog) w B 25 ty 5 i0 (.int .u8 0) 1 1 Tryd.underlying25 hi hz0 hz1 hz2 rfl (by decide) v cur.length (u8s cur) hown ad bs.length c (u8s bs) (by simp [u8s_len]) hnew (u8s_one _) (by simp only [maxLen]; omega) (by omega) hB
  refine ⟨v', w', hrun, ?_, (Below.refl B w).grown h2 hB (fun k hk => (World.ownsRow.lt hown k hk).1)⟩
  unfold Own
  rw [u8s_app, List.length_append]
  exact h1
/-- append at an operation that stands behind a guard -/
theorem append_guarded {ops : Array Oper} {rest : List Oper} {o : Oper} {a : Act} {Q : Exit → Act → World → Prop} (w : World) (B : Nat) (hw : Region.wanted o (yielded ops a.tmps) = true) (s x : Operand)
    (ho : o.op = .call { callee := .builtin .append, args := #[s, x], argTypes := #[25, 25] }) (v : Value) (cur : List Nat) (hs : a.eval s = v) (hown : Own w B v cur) (ad : Addr) (m c : Nat) (hx : a.eval x = .slice (some ad) m c) (bs : List Nat) (hm : bs.length = m)
    (hnew : ∀ (j : Nat) (u : Value), (u8s bs)[j]? = some u → w.cell? (ad.add j) = some u) (hl : cur.length + bs.length ≤ 140737488355328) (hB : B ≤ w.heap.size)
    (h : ∀ v' w', Own w' B v' (cur ++ bs) → Below B w w' → wpList Tryd.prog ops Q rest (a.put o.dst v') w') :
    wpList Tryd.prog ops Q (o :: rest) a w := by
  obtain ⟨v', w', hrun, h1, h2⟩ := run_append_any w B o.type v cur hown ad m c bs hm hnew hl hB
  rw [wpList, if_pos hw]
  left
  unfold Oper.wp execOp
  simp only [ho, resolve, invoke, builtin, Sem.run_bind, Sem.run_pure, Result.andThen_ok, List.map_toArray, List.map_cons, List.map_nil, hs, hx, hrun]
  exact h v' w' h1 h2
/-- three rows in three blocks -/
theorem fam3 {w : World} {B g1 g2 g3 n1 n2 n3 c1 c2 c3 : Nat} {x1 x2 x3 : List Nat}
    (h1 : Own w B (.slice (some ⟨g1, 0, none⟩) n1 c1) x1) (h2 : Own w B (.slice (some ⟨g2, 0, none⟩) n2 c2) x2) (h3 : Own w B (.slice (some ⟨g3, 0, none⟩) n3 c3) x3)
    (l1 : ∀ x ∈ x1, x < 256) (l2 : ∀ x ∈ x2, x < 256) (l3 : ∀ x ∈ x3, x < 256) (e12 : g1 < g2) (e23 : g2 < g3) :
    Fam w B [(.slice (some ⟨g1, 0, none⟩) n1 c1, x1), (.slice (some ⟨g2, 0, none⟩) n2 c2, x2), (.slice (some ⟨g3, 0, none⟩) n3 c3, x3)] := by
  refine ⟨fun i r hr => rows3 (P := fun r => Own w B r.1 r.2 ∧ ∀ x ∈ r.2, x < 256) ⟨h1, l1⟩ ⟨h2, l2⟩ ⟨h3, l3⟩ i r hr, ?_⟩
  intro i j r s hij hr hs g hg
  have key : ∀ (k : Nat) (r : Rw), [((Value.slice (some ⟨g1, 0, none⟩) n1 c1, x1) : Rw), (.slice (some ⟨g2, 0, none⟩) n2 c2, x2), (.slice (some ⟨g3, 0, none⟩) n3 c3, x3)][k]? = some r → r.1.ownBlock = some (if k = 0 then g1 else if k = 1 then g2 else g3) ∧ k < 3 := by
    intro k r hk
    match k, hk with
    | 0, hk => simp at hk; subst hk; exact ⟨rfl, by omega⟩
    | 1, hk => simp at hk; subst hk; exact ⟨rfl, by omega⟩
    | 2, hk => simp at hk; subst hk; exact ⟨rfl, by omega⟩
  obtain ⟨k1, l1⟩ := key i r hr
  obtain ⟨k2, l2⟩ := key j s hs
  rw [k1] at hg
  rw [k2, ← hg]
  intro e
  have e' := Option.some.inj e
  have hi : i = 0 ∨ i = 1 ∨ i = 2 := by omega
  have hj : j = 0 ∨ j = 1 ∨ j = 2 := by omega
  rcases hi with rfl | rfl | rfl <;> rcases hj with rfl | rfl | rfl <;> simp at e' hij <;> omega
theorem heads3 {w : World} {L : Nat} {v1 v2 v3 : Value} (h : w.heap[L]? = some (.cells #[v1, v2, v3] 25 (0, 0))) : Heads w L [v1, v2, v3] :=
  ⟨_, h, fun k v hk => by simpa using hk⟩
/-- what lay below the rows stays -/
theorem foot_below {w w' : World} {B : Nat} {rows : List Rw} (h : Foot w w' (InRows rows)) (hF : Fam w B rows) (hB : B ≤ w.heap.size) : Below B w w' :=
  h.below (fun g ⟨k, r, hr, hg⟩ => (World.ownsRow.lt (hF.1 k r hr).1 g hg).1) hB
theorem errs_below {B : Nat} {w w' : World} {E : Nat → Addr} {ids : List Nat} (h : Errs w E ids) (hb : Below B w w') (hB : w.heap.size ≤ B) (hg : ∀ g ∈ ids, g < B) : Errs w' E ids := h.below hb hB hg
theorem made_zeros (n : Nat) : madeCells #[Value.int .u8 0] n = (u8s (List.replicate n 0)).toArray := by
  apply Array.ext_getElem?
  intro j
  by_cases hj : j < n
  · simp [madeCells, u8s, hj, Nat.mod_one]
  · simp [madeCells, u8s, hj]
/-- a row stays where its block does -/
theorem own_by {w w' : World} {B : Nat} {v : Value} {bs : List Nat} (h : Own w B v bs) (hk : ∀ g, v.ownBlock = some g → w'.heap[g]? = w.heap[g]?) : Own w' B v bs := by
  refine ⟨h.1, ?_⟩
  rcases h.2 with h | ⟨g, cap, cur, rfl, hb, hh, hn⟩
  · exact .inl h
  · exact .inr ⟨g, cap, cur, rfl, hb, (hk g rfl).trans hh, hn⟩
/-- the whole block of a row -/
theorem own_array {w : World} {B g n cap : Nat} {bs : List Nat} (h : Own w B (.slice (some ⟨g, 0, none⟩) n cap) bs) : ∃ cur : List Value, w.heap[g]? = some (.cells cur.toArray 5 (0, 0)) ∧ cur.length = cap := by
  rcases h.2 with ⟨h, _⟩ | ⟨g', cap', cur, hv, hb, hh, hn, hm, hs, ht⟩
  · simp at h
  · simp only [Value.slice.injEq, Option.some.injEq, Addr.mk.injEq] at hv
    obtain ⟨⟨rfl, _⟩, _, rfl⟩ := hv
    exact ⟨cur.toList, by simpa using hh, by simp only [Array.length_toList]; omega⟩
/-- a block over whose beginning a list was copied -/
theorem src_front {w : World} {g N cap : Nat} {cur : List Value} {bs : List Nat} {fr : Nat × Nat} (h : w.heap[g]? = some (.cells (splice cur 0 (u8s bs)).toArray 5 fr)) (hx : ∀ x ∈ bs, x < 256) (hn : bs.length = N) (hN : N ≤ cap) (hc : cap ≤ 9223372036854775807) :
    Src w (.slice (some ⟨g, 0, none⟩) N cap) bs := by
  subst hn
  refine ⟨hx, .inr ⟨_, cap, rfl, hN, hc, fun k x hk => ?_⟩⟩
  have e : (⟨g, 0, none⟩ : Addr).add k = ⟨g, k, none⟩ := by rw [Addr.add_lit, Nat.zero_add]
  rw [e, cell_at h]
  have hkl := (List.getElem?_eq_some_iff.1 hk).1
  simp only [splice, List.take_zero, List.nil_append, List.getElem?_toArray]
  rw [List.getElem?_append_left (by rw [u8s_len]; exact hkl)]
  simp [u8s, hk]
/-- make([]byte, n) at a step of a region that draws -/
theorem step_make {ops : Array Oper} {o : Oper} {a : Act} {K : Act → World → Prop} {Q : Exit → Act → World → Prop} {E : Prop} (w : World) (hw : Region.wanted o (yielded ops a.tmps) = true) (l c : Operand) (ho : o.op = Op.makeSlice 25 l c)
    (n : Nat) (hl : a.eval l = .int .i64 (n : Int)) (hc : a.eval c = .int .i64 (n : Int)) (hn : n ≤ 140737488355328)
    (h : ∀ g w', Src w' (.slice (some ⟨g, 0, none⟩) n n) (List.replicate n 0) → Below w.heap.size w w' → K (a.put o.dst (.slice (some ⟨g, 0, none⟩) n n)) w') :
    if Region.wanted o (yielded ops a.tmps) = true then Oper.wp Tryd.prog o a w K Q else E := by
  obtain ⟨i0, hi0, hz0, hz1, hz2⟩ := info_parts info5
  have hrun := run_make_row (P := Tryd.prog) 25 5 i0 (.int .u8 0) Tryd.underlying25 hi0 hz0 hz1 rfl .i64 .i64 n (by rw [hz2]; omega) (by omega) w
  rw [if_pos hw]
  unfold Oper.wp execOp
  simp only [ho, hl, hc, hrun, Sem.run_bind, Sem.run_pure, Result.andThen_ok]
  refine h w.heap.size _ ?_ ((Below.refl w.heap.size w).alloc (Nat.le_refl _) _)
  rw [made_zeros]
  have h := src_block (heap_new (w := w) rfl (.cells (u8s (List.replicate n 0)).toArray 5)) (fun x hx => by have := List.eq_of_mem_replicate hx; omega) (by simp; omega)
  rw [List.length_replicate] at h
  exact h
def dErrs : List Nat := [0, 1, 2, 6]
theorem dErrs_lt {B : Nat} (h : 17 ≤ B) : ∀ g ∈ dErrs, g < B := by
  intro g hg
  have : g ≤ 16 := by revert hg; revert g; decide
  omega
end Go.Proofs.YtgebekklkodpaaaDoor
