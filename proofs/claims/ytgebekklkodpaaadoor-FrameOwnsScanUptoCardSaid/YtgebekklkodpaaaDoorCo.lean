/- plain: lists that a loop collects, each in a box, by the types of their blocks -/
import Derived.Test.YtgebekklkodpaaaDoorSn
import Derived.Test.YtgebekklkodpaaaDoorFam
import Derived.Test.YtgebekklkodpaaaDoorOg2
namespace Go.Proofs.YtgebekklkodpaaaDoor
open Go.RowKit

/-- the block that turns is no block of cells of type e -/
def NotTy (w : World) (row : Option Nat) (e : TypeId) : Prop := ∀ r, row = some r → ∀ cs fr, w.heap[r]? ≠ some (.cells cs e fr)
theorem notTy_none (w : World) (e : TypeId) : NotTy w none e := fun _ h => by cases h
theorem notTy_row {w : World} {B e s n : Nat} {v : Value} {xs : List Value} (h : w.ownsRow B e s v n xs) {t : TypeId} (hne : e ≠ t) : NotTy w v.ownBlock t := by
  intro r hr cs fr hc
  rcases h.2 with ⟨rfl, _⟩ | ⟨g, cap, cur, rfl, _, hh, _⟩
  · simp [Value.ownBlock] at hr
  · simp only [Value.ownBlock, Option.some.injEq] at hr
    subst hr
    rw [hh] at hc
    simp only [Option.some.injEq, Obj.cells.injEq] at hc
    exact hne hc.2.1
theorem notTy_box {w : World} {P : Nat} {e : TypeId} {v : Value} (h : Boxed w P e v) {t : TypeId} (hne : e ≠ t) : NotTy w (some P) t := by
  intro r hr cs fr hc
  obtain rfl := Option.some.inj hr
  rw [show w.heap[P]? = _ from h] at hc
  simp only [Option.some.injEq, Obj.cells.injEq] at hc
  exact hne hc.2.1
theorem notTy_obj {w : World} {row : Option Nat} (h : ∀ r, row = some r → ∃ o : Obj, w.heap[r]? = some o ∧ o.isCells = false) (t : TypeId) : NotTy w row t := by
  intro r hr cs fr hc
  obtain ⟨o, ho, hn⟩ := h r hr
  rw [hc] at ho
  cases ho
  cases hn
theorem row_kept {w w' : World} {B e s n : Nat} {v : Value} {xs : List Value} {row : Option Nat} (h : w.ownsRow B e s v n xs) (hg : w.grownBy w' row) (ht : NotTy w row e) : w'.ownsRow B e s v n xs := by
  refine World.ownsRow.kept h hg ?_
  rcases h.2 with ⟨rfl, _⟩ | ⟨g, cap, cur, rfl, _, hh, _⟩
  · exact .inl rfl
  · exact .inr (fun e' => ht g (by simpa [Value.ownBlock] using e'.symm) _ _ hh)
theorem box_kept {w w' : World} {P : Nat} {t : TypeId} {v : Value} {row : Option Nat} (h : Boxed w P t v) (hg : w.grownBy w' row) (ht : NotTy w row t) : Boxed w' P t v :=
  h.kept hg (fun e => ht P e.symm _ _ h)
theorem fam_kept {w w' : World} {B : Nat} {rows : List Rw} {row : Option Nat} (h : Fam w B rows) (hg : w.grownBy w' row) (ht : NotTy w row 5) : Fam w' B rows :=
  ⟨fun i r hr => ⟨row_kept (h.1 i r hr).1 hg ht, (h.1 i r hr).2⟩, h.2⟩
theorem kept_kept {w w' : World} {Bx g : Nat} {bs : List Nat} {row : Option Nat} (h : Kept w Bx g bs) (hg : w.grownBy w' row) (h1 : NotTy w row 25) (h2 : NotTy w row 5) : Kept w' Bx g bs :=
  ⟨(hg.block _ (heap_lt h.1) (fun e => h1 Bx e.symm _ _ h.1)).trans h.1, (hg.block _ (heap_lt h.2) (fun e => h2 g e.symm _ _ h.2)).trans h.2⟩
theorem fam_snoc {w : World} {B : Nat} {rows : List Rw} {v : Value} {bs : List Nat} (h : Fam w B rows) (ho : Own w B v bs) (hx : ∀ x ∈ bs, x < 256) (hne : ∀ r ∈ rows, ∀ g, r.1.ownBlock = some g → v.ownBlock ≠ some g) : Fam w B (rows ++ [(v, bs)]) := by
  have get : ∀ (k : Nat) (r : Rw), (rows ++ [(v, bs)])[k]? = some r → (rows[k]? = some r ∧ k < rows.length) ∨ (k = rows.length ∧ r = (v, bs)) := by
    intro k r hk
    by_cases hl : k < rows.length
    · rw [List.getElem?_append_left hl] at hk
      exact .inl ⟨hk, hl⟩
    · rw [List.getElem?_append_right (by omega)] at hk
      have hk0 : k - rows.length = 0 := by
        by_cases h0 : k - rows.length = 0
        · exact h0
        · obtain ⟨m, hm⟩ : ∃ m, k - rows.length = m + 1 := ⟨k - rows.length - 1, by omega⟩
          rw [hm] at hk
          simp at hk
      rw [hk0] at hk
      simp at hk
      exact .inr ⟨by omega, hk.symm⟩
  refine ⟨fun i r hr => ?_, fun i j r s hij hr hs g hg => ?_⟩
  · rcases get i r hr with ⟨h1, _⟩ | ⟨_, rfl⟩
    · exact h.1 i r h1
    · exact ⟨ho, hx⟩
  · rcases get i r hr with ⟨h1, l1⟩ | ⟨e1, rfl⟩
    · rcases get j s hs with ⟨h2, _⟩ | ⟨_, rfl⟩
      · exact h.2 i j r s hij h1 h2 g hg
      · exact hne r (List.mem_of_getElem? h1) g hg
    · rcases get j s hs with ⟨h2, _⟩ | ⟨e2, rfl⟩
      · intro e
        exact hne s (List.mem_of_getElem? h2) g e hg
      · omega

/-- rows of blocks whose bodies are own rows, pairwise apart -/
def BFam (w : World) (B : Nat) (v : Value) (its : List It) : Prop :=
  w.ownsRow B 47 2 v its.length (cellsOf its) ∧ (∀ x ∈ its, x.1 < 256) ∧ Fam w B (its.map fun x => (x.2.1, x.2.2))
theorem bfam_mem {w : World} {B : Nat} {v : Value} {its : List It} (h : BFam w B v its) {x : It} (hx : x ∈ its) : Own w B x.2.1 x.2.2 ∧ ∀ y ∈ x.2.2, y < 256 := by
  obtain ⟨k, hk⟩ := List.mem_iff_getElem?.1 hx
  exact h.2.2.1 k _ (by rw [List.getElem?_map, hk]; rfl)
theorem bfam_bown {w : World} {B : Nat} {v : Value} {its : List It} (h : BFam w B v its) : BOwn w B v its :=
  ⟨h.1, fun x hx => ⟨h.2.1 x hx, bod_own (bfam_mem h hx).1 (bfam_mem h hx).2⟩⟩
theorem bfam_kept {w w' : World} {B : Nat} {v : Value} {its : List It} {row : Option Nat} (h : BFam w B v its) (hg : w.grownBy w' row) (h1 : NotTy w row 47) (h2 : NotTy w row 5) : BFam w' B v its :=
  ⟨row_kept h.1 hg h1, h.2.1, fam_kept h.2.2 hg h2⟩
theorem bfam_below {w w' : World} {B : Nat} {v : Value} {its : List It} (h : BFam w B v its) (hb : Below w.heap.size w w') : BFam w' B v its :=
  bfam_kept h (grown_of_below hb) (notTy_none _ _) (notTy_none _ _)
theorem bfam_nil (w : World) (B : Nat) (h : B ≤ w.heap.size) : BFam (w.alloc (.cells #[] 47)) B (.slice (some ⟨w.heap.size, 0, none⟩) 0 0) [] := by
  refine ⟨?_, by simp, by simp [Fam]⟩
  have h := World.ownsRow_lit (base := B) (e := 47) (size := 2) w #[] 0 h (by simp [maxLen]) (by simp)
  simpa [cellsOf] using h
theorem iown_lit (w : World) (B : Nat) (h : B ≤ w.heap.size) : IOwn (w.alloc (.cells #[] 3)) B (.slice (some ⟨w.heap.size, 0, none⟩) 0 0) [] := by
  have h := World.ownsRow_lit (base := B) (e := 3) (size := 1) w #[] 0 h (by simp [maxLen]) (by simp)
  simpa [i64s, IOwn] using h
theorem row_shape {w : World} {B e s n : Nat} {v : Value} {xs : List Value} (h : w.ownsRow B e s v n xs) : ∃ ao cap, v = .slice ao n cap := by
  rcases h.2 with ⟨rfl, rfl⟩ | ⟨g, cap, cur, rfl, _⟩
  · exact ⟨none, 0, rfl⟩
  · exact ⟨_, cap, rfl⟩

set_option maxRecDepth 100000 in
/-- a number is appended, in a round -/
theorem append_intI {F : Fence} {n₀ : Nat} {ops : Array Oper} {rest : List Oper} {o : Oper} {a : Act} {Q : Exit → Act → World → Prop} (w : World) (B g n : Nat) (v : Value) (ns : List Nat) (hgd : o.guard = none) (s y : Operand)
    (ho : o.op = .call { callee := .builtin .append, args := #[s, y], argTypes := #[63, 63] }) (hs : a.eval s = v) (hy : a.eval y = .slice (some ⟨g, 0, none⟩) 1 1)
    (hown : IOwn w B v ns) (hh : w.heap[g]? = some (.cells #[.int .i64 (n : Nat)] 3 (0, 0))) (hl : ns.length ≤ 1099511627776) (hB : B ≤ w.heap.size)
    (h : ∀ g' cap' w', IOwn w' B (.slice (some ⟨g', 0, none⟩) (ns.length + 1) cap') (ns ++ [n]) → w.grownBy w' v.ownBlock → wpListIn F n₀ Tryd.prog ops Q rest (a.put o.dst (.slice (some ⟨g', 0, none⟩) (ns.length + 1) cap')) w') :
    wpListIn F n₀ Tryd.prog ops Q (o :: rest) a w := by
  obtain ⟨i0, hi, hz0, hz1, hz2⟩ := info_parts info3
  refine wpListIn_append_own w hgd s y 63 ho B 3 i0 (.int .i64 0) 1 8 Tryd.underlying63 hi hz0 hz1 hz2 rfl (by decide) v ns.length (i64s ns) hs hown ⟨g, 0, none⟩ 1 1 (i64s [n]) hy rfl ?_ ?_ (by simp only [maxLen]; omega) (by omega) hB ?_
  · intro j x hx
    have e : w.cell? ((⟨g, 0, none⟩ : Addr).add j) = w.cell? ⟨g, j, none⟩ := by rw [Addr.add_lit, Nat.zero_add]
    rw [e, cell_at hh]
    simpa [i64s] using hx
  · intro x hx
    simp only [i64s, List.map_cons, List.map_nil, List.mem_cons, List.not_mem_nil, or_false] at hx
    subst hx
    rfl
  · intro v' w' hown' hg _
    obtain ⟨g', cap', rfl⟩ := ownsRow_succ hown'
    refine h g' cap' w' ?_ hg
    unfold IOwn
    rw [i64s_app, List.length_append]
    exact hown'
set_option maxRecDepth 100000 in
/-- a block is appended, in a round -/
theorem append_blkI {F : Fence} {n₀ : Nat} {ops : Array Oper} {rest : List Oper} {o : Oper} {a : Act} {Q : Exit → Act → World → Prop} (w : World) (B g : Nat) (v : Value) (its : List It) (x : It) (hgd : o.guard = none) (s y : Operand)
    (ho : o.op = .call { callee := .builtin .append, args := #[s, y], argTypes := #[38, 38] }) (hs : a.eval s = v) (hy : a.eval y = .slice (some ⟨g, 0, none⟩) 1 1)
    (hown : BFam w B v its) (hx : x.1 < 256) (hbo : Own w B x.2.1 x.2.2) (hb256 : ∀ y ∈ x.2.2, y < 256) (hne : ∀ y ∈ its, ∀ g, y.2.1.ownBlock = some g → x.2.1.ownBlock ≠ some g)
    (hh : w.heap[g]? = some (.cells #[.int .u8 (x.1 : Nat), x.2.1] 47 (0, 0))) (hl : its.length ≤ 1099511627776) (hB : B ≤ w.heap.size)
    (h : ∀ g' cap' w', BFam w' B (.slice (some ⟨g', 0, none⟩) (its.length + 1) cap') (its ++ [x]) → w.grownBy w' v.ownBlock → wpListIn F n₀ Tryd.prog ops Q rest (a.put o.dst (.slice (some ⟨g', 0, none⟩) (its.length + 1) cap')) w') :
    wpListIn F n₀ Tryd.prog ops Q (o :: rest) a w := by
  obtain ⟨i0, hi, hz0, hz1, hz2⟩ := info_parts info47
  refine wpListIn_append_own w hgd s y 38 ho B 47 i0 (.agg #[.int .u8 0, .slice none 0 0]) 2 32 Tryd.underlying38 hi hz0 hz1 hz2 rfl (by decide) v its.length (cellsOf its) hs hown.1 ⟨g, 0, none⟩ 1 1 (cellsOf [x]) hy rfl ?_ ?_ (by simp only [maxLen]; omega) (by omega) hB ?_
  · intro j u hu
    have e : w.cell? ((⟨g, 0, none⟩ : Addr).add j) = w.cell? ⟨g, j, none⟩ := by rw [Addr.add_lit, Nat.zero_add]
    rw [e, cell_at hh]
    simpa [cellsOf] using hu
  · intro u hu
    simp only [cellsOf, List.flatMap_cons, List.flatMap_nil, List.append_nil, List.mem_cons, List.not_mem_nil, or_false] at hu
    rcases hu with rfl | rfl
    · rfl
    · exact src_one (own_src hbo hb256)
  · intro v' w' hown' hg _
    obtain ⟨g', cap', rfl⟩ := ownsRow_succ hown'
    refine h g' cap' w' ⟨?_, ?_, ?_⟩ hg
    · rw [cellsOf_app, List.length_append]
      exact hown'
    · intro y hy
      rcases List.mem_append.1 hy with hy | hy
      · exact hown.2.1 y hy
      · simp at hy
        subst hy
        exact hx
    · have h5 := notTy_row hown.1 (t := 5) (by decide)
      rw [List.map_append]
      refine fam_snoc (fam_kept hown.2.2 hg h5) (row_kept hbo hg h5) hb256 ?_
      intro r hr q hq
      obtain ⟨y, hy, rfl⟩ := List.mem_map.1 hr
      exact hne y hy q hq

theorem row_mono {w : World} {B B' e s n : Nat} {v : Value} {xs : List Value} (h : w.ownsRow B e s v n xs) (hB : B' ≤ B) : w.ownsRow B' e s v n xs := by
  refine ⟨h.1, ?_⟩
  rcases h.2 with h | ⟨g, cap, cur, rfl, hb, hh, hn⟩
  · exact .inl h
  · exact .inr ⟨g, cap, cur, rfl, by omega, hh, hn⟩
theorem fam_mono {w : World} {B B' : Nat} {rows : List Rw} (h : Fam w B rows) (hB : B' ≤ B) : Fam w B' rows := ⟨fun i r hr => ⟨row_mono (h.1 i r hr).1 hB, (h.1 i r hr).2⟩, h.2⟩
theorem bfam_mono {w : World} {B B' : Nat} {v : Value} {its : List It} (h : BFam w B v its) (hB : B' ≤ B) : BFam w B' v its := ⟨row_mono h.1 hB, h.2.1, fam_mono h.2.2 hB⟩
/-- all blocks of cells of type t lie as they lay -/
def KeepTy (W W' : World) (t : TypeId) : Prop := ∀ (k : Nat) (cs : Array Value) (fr : Nat × Nat), W.heap[k]? = some (.cells cs t fr) → W'.heap[k]? = some (.cells cs t fr)
theorem KeepTy.trans {A B C : World} {t : TypeId} (h : KeepTy A B t) (k : KeepTy B C t) : KeepTy A C t := fun i cs fr hi => k i cs fr (h i cs fr hi)
theorem keepTy_grown {W W' : World} {row : Option Nat} {t : TypeId} (hg : W.grownBy W' row) (hn : NotTy W row t) : KeepTy W W' t := fun k _ _ hk =>
  (hg.block k (heap_lt hk) (fun e => hn k e.symm _ _ hk)).trans hk
theorem keepTy_below {W W' : World} (hb : Below W.heap.size W W') (t : TypeId) : KeepTy W W' t := keepTy_grown (grown_of_below hb) (notTy_none _ _)
theorem row_keepTy {w w' : World} {B e s n : Nat} {v : Value} {xs : List Value} (h : w.ownsRow B e s v n xs) (hk : KeepTy w w' e) : w'.ownsRow B e s v n xs := by
  refine ⟨h.1, ?_⟩
  rcases h.2 with h | ⟨g, cap, cur, rfl, hb, hh, hn⟩
  · exact .inl h
  · exact .inr ⟨g, cap, cur, rfl, hb, hk _ _ _ hh, hn⟩
theorem box_keepTy {w w' : World} {P : Nat} {t : TypeId} {v : Value} (h : Boxed w P t v) (hk : KeepTy w w' t) : Boxed w' P t v := hk _ _ _ h
theorem fam_keepTy {w w' : World} {B : Nat} {rows : List Rw} (h : Fam w B rows) (hk : KeepTy w w' 5) : Fam w' B rows :=
  ⟨fun i r hr => ⟨row_keepTy (h.1 i r hr).1 hk, (h.1 i r hr).2⟩, h.2⟩
theorem bfam_keepTy {w w' : World} {B : Nat} {v : Value} {its : List It} (h : BFam w B v its) (h1 : KeepTy w w' 47) (h2 : KeepTy w w' 5) : BFam w' B v its :=
  ⟨row_keepTy h.1 h1, h.2.1, fam_keepTy h.2.2 h2⟩
theorem kept_keepTy {w w' : World} {Bx g : Nat} {bs : List Nat} (h : Kept w Bx g bs) (h1 : KeepTy w w' 25) (h2 : KeepTy w w' 5) : Kept w' Bx g bs :=
  ⟨h1 _ _ _ h.1, h2 _ _ _ h.2⟩
/-- the blocks that a Scan's loop must leave alone -/
def ScanS (Bx g : Nat) (k : Nat) : Prop := k < 17 ∨ k = Bx ∨ k = g
theorem scanS_same {W W' : World} {Bx g B : Nat} {bs : List Nat} (h : Kept W Bx g bs) (hb : Below B W W') (hB : 17 ≤ B) (h1 : KeepTy W W' 25) (h2 : KeepTy W W' 5) : Same (ScanS Bx g) W W' := by
  refine ⟨hb.size, fun k o hk ho => ?_⟩
  rcases hk with hk | rfl | rfl
  · exact (hb.block k (by omega)).trans ho
  · have e := h.1.symm.trans ho
    rw [← Option.some.inj e]
    exact h1 _ _ _ h.1
  · have e := h.2.symm.trans ho
    rw [← Option.some.inj e]
    exact h2 _ _ _ h.2
/-- 'out = append(out, ..)': the blocks of other types -/
theorem appended_keep {W w1 : World} {n₀ B : Nat} {t e : TypeId} {size : Nat} {v v' : Value} {k : Nat} {xs : List Value} {tmp : Obj}
    (hv : Boxed W B t v) (hte : t ≠ e) (hrow : W.ownsRow n₀ e size v k xs) (hgrow : (W.alloc tmp).grownBy w1 v.ownBlock) {q : TypeId} (hq1 : t ≠ q) (hq2 : e ≠ q) : KeepTy W (w1.setCell ⟨B, 0, none⟩ v') q := by
  have hv1 : Boxed w1 B t v := (hv.alloc tmp).kept hgrow (hv.not_row hte hrow)
  have h1 : KeepTy W (W.alloc tmp) q := keepTy_grown (World.grownBy_alloc W tmp none) (notTy_none _ _)
  have h2 : KeepTy (W.alloc tmp) w1 q := keepTy_grown hgrow (notTy_row (hrow.alloc tmp) hq2)
  have h3 : KeepTy w1 (w1.setCell ⟨B, 0, none⟩ v') q := keepTy_grown (grownBy_setCell' w1 B v') (notTy_box hv1 hq1)
  exact (h1.trans h2).trans h3
end Go.Proofs.YtgebekklkodpaaaDoor
