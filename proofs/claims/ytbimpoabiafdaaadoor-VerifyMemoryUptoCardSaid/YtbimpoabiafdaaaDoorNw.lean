/- a program as new memory -/
import Derived.Test.YtbimpoabiafdaaaDoorCo5
namespace Go.Proofs.YtbimpoabiafdaaaDoor
open Go.RowKit Vf
theorem fa_kept {w w' : World} {B : Nat} {R : Nat → Option Ro} {row : Option Nat} (h : Fa w B R) (hg : w.grownBy w' row) (ht : ∀ (j : Nat) (r : Ro), R j = some r → NotTy w row r.e) : Fa w' B R :=
  ⟨fun j r hj => row_kept (h.1 j r hj) hg (ht j r hj), h.2⟩
theorem fa_keepTy {w w' : World} {B : Nat} {R : Nat → Option Ro} (h : Fa w B R) (hk : ∀ (j : Nat) (r : Ro), R j = some r → KeepTy w w' r.e) : Fa w' B R :=
  ⟨fun j r hj => row_keepTy (h.1 j r hj) (hk j r hj), h.2⟩
/-- phrases as new memory: headers, numbers -/
abbrev NIt := Value × Value × Nr
def nitCells (its : List NIt) : List Value := its.flatMap fun x => [x.1, x.2.1, .int .i64 x.2.2.slop]
theorem nitCells_app (l m : List NIt) : nitCells (l ++ m) = nitCells l ++ nitCells m := by simp [nitCells]
theorem nitCells_get {l : List NIt} {i : Nat} {x : NIt} (h : l[i]? = some x) : (nitCells l)[i * 3]? = some x.1 ∧ (nitCells l)[i * 3 + 1]? = some x.2.1 ∧ (nitCells l)[i * 3 + 2]? = some (.int .i64 x.2.2.slop) := by
  induction l generalizing i with
  | nil => simp at h
  | cons y r ih =>
    cases i with
    | zero =>
      simp at h; subst h
      simp [nitCells]
    | succ i =>
      simp at h
      obtain ⟨h1, h2, h3⟩ := ih h
      simp only [nitCells, List.flatMap_cons] at *
      have e0 : (i + 1) * 3 = i * 3 + 3 := by omega
      have e1 : i * 3 + 3 + 1 = i * 3 + 1 + 3 := by omega
      have e2 : i * 3 + 3 + 2 = i * 3 + 2 + 3 := by omega
      rw [e0, e1, e2]
      refine ⟨?_, ?_, ?_⟩
      · rw [List.getElem?_append_right (by simp)]; simpa using h1
      · rw [List.getElem?_append_right (by simp)]; simpa using h2
      · rw [List.getElem?_append_right (by simp)]; simpa using h3
def NrIts (w : World) (N : Nat) (v : Value) (its : List NIt) : Prop :=
  w.ownsRow N 65 3 v its.length (nitCells its) ∧ ∀ x ∈ its, w.ownsRow N 3 1 x.1 x.2.2.cs.length (intCells x.2.2.cs) ∧ w.ownsRow N 3 1 x.2.1 x.2.2.os.length (intCells x.2.2.os)
theorem nrits_nil (w : World) (N : Nat) : NrIts w N (.slice none 0 0) [] := ⟨World.ownsRow_nil w N 65 3, fun _ h => by cases h⟩
theorem nrits_keepTy {w w' : World} {N : Nat} {v : Value} {its : List NIt} (h : NrIts w N v its) (h1 : KeepTy w w' 65) (h2 : KeepTy w w' 3) : NrIts w' N v its :=
  ⟨row_keepTy h.1 h1, fun x hx => ⟨row_keepTy (h.2 x hx).1 h2, row_keepTy (h.2 x hx).2 h2⟩⟩
theorem nrits_keep {w w' : World} {N : Nat} {v : Value} {its : List NIt} (h : NrIts w N v its) (hb : Below w.heap.size w w') : NrIts w' N v its := nrits_keepTy h (keepTy_below hb 65) (keepTy_below hb 3)
/-- blocks from N on are as they were -/
theorem row_high {w w' : World} {N e s n : Nat} {v : Value} {xs : List Value} (h : w.ownsRow N e s v n xs) (hk : ∀ k, N ≤ k → k < w.heap.size → w'.heap[k]? = w.heap[k]?) : w'.ownsRow N e s v n xs := by
  refine ⟨h.1, ?_⟩
  rcases h.2 with hn | ⟨g, cap, cur, rfl, hb, hg, rest⟩
  · exact .inl hn
  · exact .inr ⟨g, cap, cur, rfl, hb, (hk g hb (heap_lt hg)).trans hg, rest⟩
theorem nrits_high {w w' : World} {N : Nat} {v : Value} {its : List NIt} (h : NrIts w N v its) (hk : ∀ k, N ≤ k → k < w.heap.size → w'.heap[k]? = w.heap[k]?) : NrIts w' N v its :=
  ⟨row_high h.1 hk, fun x hx => ⟨row_high (h.2 x hx).1 hk, row_high (h.2 x hx).2 hk⟩⟩
theorem slice_one {v : Value} (h : ∃ a n c, v = .slice a n c) : v.oneCell' = true := by
  obtain ⟨a, n, c, rfl⟩ := h
  rfl
theorem run_nr (w : World) (N Y : Nat) (v : Value) (its : List NIt) (x : NIt) (ty : TypeId) (h : NrIts w N v its) (hc : w.ownsRow N 3 1 x.1 x.2.2.cs.length (intCells x.2.2.cs)) (ho : w.ownsRow N 3 1 x.2.1 x.2.2.os.length (intCells x.2.2.os))
    (hh : w.heap[Y]? = some (.cells #[x.1, x.2.1, .int .i64 x.2.2.slop] 65 (0, 0))) (hl : its.length ≤ 1099511627776) (hN : N ≤ w.heap.size) :
    ∃ v' w', (Builtin.append_ #[24, 24] ty #[v, .slice (some ⟨Y, 0, none⟩) 1 1]).run Tryd.prog w = .ok v' w' ∧ NrIts w' N v' (its ++ [x]) ∧ w.grownBy w' v.ownBlock := by
  obtain ⟨i0, hi, hz0, hz1, hz2⟩ := info_parts info65
  have hs : SrcC w (.slice (some ⟨Y, 0, none⟩) 1 1) 1 3 (nitCells [x]) := by
    refine ⟨by simp [nitCells], .inr ⟨⟨Y, 0, none⟩, 1, rfl, fun j u hj => ?_⟩⟩
    have e : w.cell? ((⟨Y, 0, none⟩ : Addr).add j) = w.cell? ⟨Y, j, none⟩ := by rw [Addr.add_lit, Nat.zero_add]
    rw [e, cell_at hh]
    simpa [nitCells] using hj
  have h1 : ∀ u ∈ nitCells [x], u.oneCell' = true := by
    intro u hu
    simp only [nitCells, List.flatMap_cons, List.flatMap_nil, List.append_nil, List.mem_cons, List.not_mem_nil, or_false] at hu
    obtain ⟨a1, c1, e1⟩ := row_shape hc
    obtain ⟨a2, c2, e2⟩ := row_shape ho
    rcases hu with rfl | rfl | rfl
    · exact slice_one ⟨_, _, _, e1⟩
    · exact slice_one ⟨_, _, _, e2⟩
    · rfl
  obtain ⟨v', w', k1, k2, k3, _⟩ := run_row w N 24 ty 65 i0 _ 3 _ Tryd.underlying24 hi hz0 hz1 hz2 rfl (by decide) v _ its.length 1 (nitCells its) (nitCells [x]) h.1 hs h1 (by simp only [maxLen]; omega) (by omega) hN
  refine ⟨v', w', k1, ⟨by rw [nitCells_app, List.length_append]; exact k2, fun y hy => ?_⟩, k3⟩
  have ht := notTy_row h.1 (t := 3) (by decide)
  rcases List.mem_append.1 hy with hy | hy
  · exact ⟨row_kept (h.2 y hy).1 k3 ht, row_kept (h.2 y hy).2 k3 ht⟩
  · simp at hy
    subst hy
    exact ⟨row_kept hc k3 ht, row_kept ho k3 ht⟩
/-- an own row of numbers read -/
theorem own_ints {w : World} {B : Nat} {v : Value} {zs : List Int} (h : w.ownsRow B 3 1 v zs.length (intCells zs)) : Ints w v zs := by
  rcases h.2 with ⟨rfl, h0⟩ | ⟨g, cap, cur, rfl, hb, hh, hn, hm, hs, ht⟩
  · exact .inl ⟨rfl, List.eq_nil_of_length_eq_zero h0⟩
  · refine .inr ⟨⟨g, 0, none⟩, cap, rfl, hn, by unfold maxLen at hm; omega, fun k x hk => ?_⟩
    have hc := World.ownsRow.cells h (g := g) rfl
    have e0 := hc k (.int .i64 x) (by simp [intCells, hk])
    rw [Addr.add_lit, Nat.zero_add] at e0 ⊢
    exact e0
theorem own_leafs {w : World} {B : Nat} {v : Value} {l : List (Int × ByteArray)} (h : w.ownsRow B 63 2 v l.length (leafCells l)) : Leafs w v l := by
  rcases h.2 with ⟨rfl, h0⟩ | ⟨g, cap, cur, rfl, hb, hh, hn, hm, hs, ht⟩
  · exact .inl ⟨rfl, List.eq_nil_of_length_eq_zero h0⟩
  · refine .inr ⟨⟨g, 0, none⟩, cap, rfl, hn, by unfold maxLen at hm; omega, fun k x hk => ?_⟩
    obtain ⟨h1, h2⟩ := leafCells_get hk
    have hc := World.ownsRow.cells h (g := g) rfl
    have e0 := hc _ _ h1
    have e1 := hc _ _ h2
    rw [Addr.add_lit, Nat.zero_add] at e0 e1
    rw [Addr.add_lit, Nat.zero_add]
    exact ⟨e0, e1⟩
theorem nrits_nrs {w : World} {N : Nat} {v : Value} {its : List NIt} (h : NrIts w N v its) : Nrs w v (its.map (·.2.2)) := by
  rcases h.1.2 with ⟨rfl, h0⟩ | ⟨g, cap, cur, rfl, hb, hh, hn, hm, hs, ht⟩
  · have : its = [] := List.eq_nil_of_length_eq_zero h0
    subst this
    exact .inl ⟨rfl, rfl⟩
  · refine .inr ⟨⟨g, 0, none⟩, cap, by simp, by simpa using hn, by unfold maxLen at hm; omega, fun k n hk => ?_⟩
    rw [List.getElem?_map, Option.map_eq_some_iff] at hk
    obtain ⟨x, hx, rfl⟩ := hk
    obtain ⟨h1, h2, h3⟩ := nitCells_get hx
    have hc := World.ownsRow.cells h.1 (g := g) rfl
    have e0 := hc _ _ h1
    have e1 := hc _ _ h2
    have e2 := hc _ _ h3
    have hx' := h.2 x (List.mem_of_getElem? hx)
    rw [Addr.add_lit, Nat.zero_add] at e0 e1 e2
    rw [Addr.add_lit, Nat.zero_add]
    exact ⟨x.1, x.2.1, e0, e1, e2, own_ints hx'.1, own_ints hx'.2⟩
/-- a program as new memory: the phrases lie from N on, the rest below it -/
structure NewP (w : World) (B N : Nat) (va vc vn vd vb : Value) (P : Prg) : Prop where
  fam : Fa w B (R4 (some ⟨3, 1, va, P.avgs.length, intCells P.avgs⟩) (some ⟨63, 2, vc, P.cur.length, leafCells P.cur⟩) (some ⟨3, 1, vd, P.drive.length, intCells P.drive⟩) (some ⟨5, 1, vb, P.code.length, u8s P.code⟩))
  low : ∀ g, va.ownBlock = some g ∨ vc.ownBlock = some g ∨ vd.ownBlock = some g ∨ vb.ownBlock = some g → g < N
  nr : ∃ its, its.map (·.2.2) = P.nears ∧ NrIts w N vn its
  code : ∀ x ∈ P.code, x < 256
  bn : B ≤ N
theorem NewP.at {w : World} {B N : Nat} {va vc vn vd vb : Value} {P : Prg} (h : NewP w B N va vc vn vd vb P) : PrgAt w va vc vn vd vb P := by
  obtain ⟨its, e, hn⟩ := h.nr
  exact ⟨own_ints (h.fam.1 0 _ rfl), own_leafs (h.fam.1 1 _ rfl), by rw [← e]; exact nrits_nrs hn, own_ints (h.fam.1 2 _ rfl), src_own (h.fam.1 3 _ rfl) h.code⟩
theorem NewP.keep {w w' : World} {B N : Nat} {va vc vn vd vb : Value} {P : Prg} (h : NewP w B N va vc vn vd vb P) (hb : Below w.heap.size w w') : NewP w' B N va vc vn vd vb P := by
  obtain ⟨its, e, hn⟩ := h.nr
  exact ⟨fa_below h.fam hb, h.low, ⟨its, e, nrits_keep hn hb⟩, h.code, h.bn⟩
theorem NewP.form {w : World} {B N : Nat} {va vc vn vd vb : Value} {P : Prg} (h : NewP w B N va vc vn vd vb P) :
    (∃ a c, va = .slice a P.avgs.length c) ∧ (∃ a c, vc = .slice a P.cur.length c) ∧ (∃ a c, vn = .slice a P.nears.length c) ∧ (∃ a c, vd = .slice a P.drive.length c) ∧ (∃ a c, vb = .slice a P.code.length c) := by
  obtain ⟨its, e, hn⟩ := h.nr
  have hl : its.length = P.nears.length := by rw [← e, List.length_map]
  exact ⟨row_shape (h.fam.1 0 _ rfl), row_shape (h.fam.1 1 _ rfl), by rw [← hl]; exact row_shape hn.1, row_shape (h.fam.1 2 _ rfl), row_shape (h.fam.1 3 _ rfl)⟩
/-- six cells of a block are written -/
theorem set6 {w : World} {p : Nat} {t : TypeId} {a b c d e f : Value} (h : w.heap[p]? = some (.cells #[a, b, c, d, e, f] t (0, 0))) (a' b' c' d' e' f' : Value) :
    ((((((w.setCell ⟨p, 0, none⟩ a').setCell ⟨p, 1, none⟩ b').setCell ⟨p, 2, none⟩ c').setCell ⟨p, 3, none⟩ d').setCell ⟨p, 4, none⟩ e').setCell ⟨p, 5, none⟩ f').heap[p]? = some (.cells #[a', b', c', d', e', f'] t (0, 0)) ∧
    (∀ u, t ≠ u → KeepTy w ((((((w.setCell ⟨p, 0, none⟩ a').setCell ⟨p, 1, none⟩ b').setCell ⟨p, 2, none⟩ c').setCell ⟨p, 3, none⟩ d').setCell ⟨p, 4, none⟩ e').setCell ⟨p, 5, none⟩ f') u) ∧
    (∀ B w0, Below B w0 w → B ≤ p → Below B w0 ((((((w.setCell ⟨p, 0, none⟩ a').setCell ⟨p, 1, none⟩ b').setCell ⟨p, 2, none⟩ c').setCell ⟨p, 3, none⟩ d').setCell ⟨p, 4, none⟩ e').setCell ⟨p, 5, none⟩ f')) := by
  have h1 := heap_set (i := 0) h a'
  have h2 := heap_set (i := 1) h1 b'
  have h3 := heap_set (i := 2) h2 c'
  have h4 := heap_set (i := 3) h3 d'
  have h5 := heap_set (i := 4) h4 e'
  have h6 := heap_set (i := 5) h5 f'
  refine ⟨by simpa using h6, fun u hu => ?_, fun B w0 hb hp => ?_⟩
  · exact (((((keepTy_at (i := 0) h hu a').trans (keepTy_at (i := 1) h1 hu b')).trans (keepTy_at (i := 2) h2 hu c')).trans (keepTy_at (i := 3) h3 hu d')).trans (keepTy_at (i := 4) h4 hu e')).trans (keepTy_at (i := 5) h5 hu f')
  · exact below_set (below_set (below_set (below_set (below_set (below_set hb hp _) hp _) hp _) hp _) hp _) hp _
end Go.Proofs.YtbimpoabiafdaaaDoor
