/- the law's 'bodies': the bodies of blocks, as a list of its own -/
import Derived.Test.YtgebekklkodpaaaDoorAk
import Derived.Deep.RegionHeld3
namespace Go.Proofs.YtgebekklkodpaaaDoor
open Go.RowKit

/-- a row of lists' headers -/
def HOwn (w : World) (B : Nat) (v : Value) (vs : List Value) : Prop := w.ownsRow B 25 1 v vs.length vs
set_option maxRecDepth 100000 in
/-- headers are appended -/
theorem append_heads {ops : Array Oper} {rest : List Oper} {o : Oper} {a : Act} {Q : Exit → Act → World → Prop} (w0 w : World) (B : Nat) (v : Value) (vs us : List Value) (hgd : o.guard = none) (s y : Operand)
    (ho : o.op = .call { callee := .builtin .append, args := #[s, y], argTypes := #[62, 62] }) (hs : a.eval s = v) (ad : Addr) (m c : Nat) (hy : a.eval y = .slice (some ad) m c) (hm : us.length = m)
    (hown : HOwn w B v vs) (hnew : ∀ (j : Nat) (u : Value), us[j]? = some u → w.cell? (ad.add j) = some u) (hone : ∀ u ∈ us, u.oneCell' = true) (hl : vs.length + m ≤ 2199023255552) (hB : B ≤ w.heap.size) (hb : Below B w0 w)
    (h : ∀ v' w', HOwn w' B v' (vs ++ us) → Below B w0 w' → (∀ t, 25 ≠ t → KeepTy w w' t) → wpList Tryd.prog ops Q rest (a.put o.dst v') w') :
    wpList Tryd.prog ops Q (o :: rest) a w := by
  obtain ⟨i0, hi, hz0, hz1, hz2⟩ := info_parts info25
  refine wpList_append_own w hgd s y 62 ho B 25 i0 (.slice none 0 0) 1 24 Tryd.underlying62 hi hz0 hz1 hz2 rfl (by decide) v vs.length vs hs hown ad m c us hy (by omega) hnew hone (by simp only [maxLen]; omega) (by omega) hB ?_
  intro v' w' hown' hg _
  refine h v' w' ?_ (hb.grown hg hB (fun k hk => (World.ownsRow.lt hown k hk).1)) (fun t ht => keepTy_grown hg (notTy_row hown ht))
  unfold HOwn
  rw [List.length_append, hm]
  exact hown'
theorem hown_heads {w : World} {B : Nat} {v : Value} {vs : List Value} (h : HOwn w B v vs) (hn : 0 < vs.length) : ∃ L cap, v = .slice (some ⟨L, 0, none⟩) vs.length cap ∧ Heads w L vs ∧ vs.length ≤ cap ∧ cap ≤ 9223372036854775807 ∧ B ≤ L := by
  rcases h.2 with ⟨_, h0⟩ | ⟨L, cap, cur, rfl, hb, hh, hc, hm, hs, ht⟩
  · omega
  · obtain ⟨h1, h2, h3, h4⟩ := heads_own h
    exact ⟨L, cap, rfl, h1, h2, h3, h4⟩
set_option maxRecDepth 100000 in
set_option maxHeartbeats 1000000 in
theorem bodies_any (w : World) (B : Nat) (v : Value) (its : List It) (hrow : w.ownsRow B 47 2 v its.length (cellsOf its)) (hsl : ∀ x ∈ its, ∃ a n c, x.2.1 = .slice a n c) (hl : its.length ≤ 1099511627776) :
    Calls Tryd.prog 46 #[v] w fun e w' => ∃ v', e = .returned v' ∧ HOwn w' w.heap.size v' (its.map (·.2.1)) ∧ Below w.heap.size w w' := by
  obtain ⟨ao, cap, rfl⟩ := row_shape hrow
  have HR := hide hrow
  have HSL := hide hsl
  clear hrow hsl
  have c0 : HOwn (w.alloc (.cells #[] 25)) w.heap.size (.slice (some ⟨w.heap.size, 0, none⟩) 0 0) [] := by
    have h := World.ownsRow_lit (base := w.heap.size) (e := 25) (size := 1) w #[] 0 (Nat.le_refl _) (by simp [maxLen]) (by simp)
    simpa [HOwn] using h
  have C0 := hide c0
  have HB0 := hide ((Below.refl w.heap.size w).alloc (Nat.le_refl _) (.cells #[] 25))
  clear c0
  go_enter Tryd.func46, Tryd.ntmps46
  go_wp2_with fail
  go_loopw [3, 9] (fun s3 c wr => ∃ i : Nat, i ≤ its.length ∧ c = .int .i64 i ∧ HOwn wr w.heap.size s3 ((its.take i).map (·.2.1)) ∧ Below w.heap.size w wr) (fun _ c _ => its.length - (intOf c).toNat)
  case atStart => exact ⟨0, by omega, rfl, by simpa using C0.out, HB0.out⟩
  case round =>
    obtain ⟨i, hi, rfl, ho, hb⟩ := hrel
    have hn : ((its.take i).map fun (z : It) => z.2.1).length = i := by simp; omega
    obtain ⟨a3, k3, rfl⟩ := row_shape ho
    rw [hn] at ho ⊢
    have HO := hide ho
    have HB := hide hb
    have HNI := hide hn
    clear hn
    have hsr := hb.size
    clear ho hb
    by_cases hlt : i < its.length
    · obtain ⟨x, hx⟩ : ∃ x, its[i]? = some x := ⟨_, List.getElem?_eq_getElem hlt⟩
      obtain ⟨t, u, body⟩ := x
      obtain ⟨au, nu, cu, hu⟩ := HSL.out _ (List.mem_of_getElem? hx)
      simp only at hu
      subst hu
      obtain ⟨g, c', hform⟩ : ∃ g c, Value.slice ao its.length cap = .slice (some ⟨g, 0, none⟩) its.length c := by
        rcases HR.out.2 with ⟨h, h0⟩ | ⟨g, c, cur, h, _⟩
        · omega
        · exact ⟨g, c, h⟩
      simp only [Value.slice.injEq, true_and] at hform
      obtain ⟨rfl, rfl⟩ := hform
      have hc := World.ownsRow.cells HR.out (g := g) rfl
      obtain ⟨e0, e1⟩ := cellsOf_get its i _ hx
      have c0 := (HB.out.cell (p := (⟨g, 0, none⟩ : Addr).add (2 * i)) (World.block_lt_of_cell? w _ (hc _ _ e0))).trans (hc _ _ e0)
      have c1 := (HB.out.cell (p := (⟨g, 0, none⟩ : Addr).add (2 * i + 1)) (World.block_lt_of_cell? w _ (hc _ _ e1))).trans (hc _ _ e1)
      rw [Addr.add_lit, Nat.zero_add] at c0 c1
      have hi1 : (i : Int) < (its.length : Int) := by omega
      have HX := hide hx
      clear hx hc e0 e1
      rw [Nat.mul_comm] at c0 c1
      have hq1 : Below wr.heap.size wr ((wr.alloc (.cells #[.int .u8 (t : Nat), .slice au nu cu] 47)).alloc (.cells #[.slice au nu cu] 25)) := ((Below.refl wr.heap.size wr).alloc (Nat.le_refl _) _).alloc (by simp) _
      have HQ := hide (show HOwn _ w.heap.size _ _ from row_keepTy HO.out (keepTy_below hq1 25))
      have HB2 := hide (HB.out.trans (hq1.mono hsr))
      have z2 := HB2.out.size
      have hx2 := heap_new (w := wr.alloc (.cells #[.int .u8 (t : Nat), .slice au nu cu] 47)) rfl (.cells #[.slice au nu cu] 25)
      rw [World.size_alloc] at hx2
      have HNW := hide (fun (j : Nat) (u : Value) (hu : ([Value.slice au nu cu] : List Value)[j]? = some u) => (by
        have e : ((⟨wr.heap.size + 1, 0, none⟩ : Addr).add j) = ⟨wr.heap.size + 1, j, none⟩ := by rw [Addr.add_lit, Nat.zero_add]
        rw [e, cell_at hx2]
        simpa using hu : ((wr.alloc (.cells #[.int .u8 (t : Nat), .slice au nu cu] 47)).alloc (.cells #[.slice au nu cu] 25)).cell? ((⟨wr.heap.size + 1, 0, none⟩ : Addr).add j) = some u))
      clear hq1 hx2
      go_wp2_with (refine append_heads w _ w.heap.size _ ((its.take i).map fun (z : It) => z.2.1) [.slice au nu cu] rfl (.tmp 13) (.tmp 16) rfl rfl ⟨wr.heap.size + 1, 0, none⟩ 1 1 rfl rfl HQ.out HNW.out (by simp [Value.oneCell']) (by have := HNI.out; omega) z2 HB2.out ?_)
      intro v5 w5 ho5 hb5 _
      have HO5 := hide ho5
      have HB5 := hide hb5
      clear ho5 hb5
      go_wp2_with fail
      refine ⟨⟨i + 1, by omega, by simp, ?_, HB5.out⟩, by simp [intOf]; omega⟩
      have h := HO5.out
      have e : (its.take (i + 1)).map (fun (z : It) => z.2.1) = (its.take i).map (fun (z : It) => z.2.1) ++ [.slice au nu cu] := by rw [List.take_add_one, HX.out]; simp
      rw [e]
      first | exact h | (rw [List.map_take]; exact h)
    · obtain rfl : i = its.length := by omega
      rw [List.take_length] at HO
      go_wp2_with fail
      go_ret
      exact ⟨.slice a3 its.length k3, rfl, HO.out, HB.out⟩
end Go.Proofs.YtgebekklkodpaaaDoor
/-! rows of lists' headers: one behind the other, in a region that draws its order; families one behind the other -/
namespace Go.Proofs.YtgebekklkodpaaaDoor
open Go.RowKit

set_option maxRecDepth 100000 in
theorem run_heads (w : World) (B B2 : Nat) (v u : Value) (vs us : List Value) (ty : TypeId) (hown : HOwn w B v vs) (hu : HOwn w B2 u us) (hone : ∀ x ∈ us, x.oneCell' = true) (hl : vs.length + us.length ≤ 2199023255552) (hB : B ≤ w.heap.size) :
    ∃ v' w', (Builtin.append_ #[62, 62] ty #[v, u]).run Tryd.prog w = .ok v' w' ∧ HOwn w' B v' (vs ++ us) ∧ w.grownBy w' v.ownBlock := by
  obtain ⟨i0, hi, hz0, hz1, hz2⟩ := info_parts info25
  rcases hu.2 with ⟨rfl, h0⟩ | ⟨g, cap, cur, rfl, hb, hh, hc, hm, hs, ht⟩
  · have hn := List.eq_nil_of_length_eq_zero h0
    subst hn
    refine ⟨v, w, run_append_owned_none (P := Tryd.prog) (w := w) B 62 ty 25 i0 1 Tryd.underlying62 hi v vs.length vs hown, ?_, ⟨rfl, rfl, rfl, Nat.le_refl _, fun _ _ _ => rfl⟩⟩
    rw [List.append_nil]
    exact hown
  · obtain ⟨v', w', h1, h2, h3, _⟩ := run_append_own (P := Tryd.prog) w B 62 ty 25 i0 (.slice none 0 0) 1 24 Tryd.underlying62 hi hz0 hz1 hz2 rfl (by decide) v vs.length vs hown ⟨g, 0, none⟩ us.length cap us (by simp)
      (fun j x hx => World.ownsRow.cells hu rfl j x hx) hone (by simp only [maxLen]; omega) (by omega) hB
    refine ⟨v', w', h1, ?_, h3⟩
    unfold HOwn
    rw [List.length_append]
    exact h2
theorem step_heads {ops : Array Oper} {o : Oper} {a : Act} {K : Act → World → Prop} {Q : Exit → Act → World → Prop} {E : Prop} (w : World) (B B2 : Nat) (v u : Value) (vs us : List Value) (hgd : o.guard = none) (s y : Operand)
    (ho : o.op = .call { callee := .builtin .append, args := #[s, y], argTypes := #[62, 62] }) (hs : a.eval s = v) (hy : a.eval y = u)
    (hown : HOwn w B v vs) (hu : HOwn w B2 u us) (hone : ∀ x ∈ us, x.oneCell' = true) (hl : vs.length + us.length ≤ 2199023255552) (hB : B ≤ w.heap.size)
    (h : ∀ v' w', HOwn w' B v' (vs ++ us) → w.grownBy w' v.ownBlock → K (a.put o.dst v') w') :
    if Region.wanted o (yielded ops a.tmps) = true then Oper.wp Tryd.prog o a w K Q else E := by
  have hw : Region.wanted o (yielded ops a.tmps) = true := by simp [Region.wanted, hgd]
  rw [if_pos hw]
  obtain ⟨v', w', hr, h1, h2⟩ := run_heads w B B2 v u vs us o.type hown hu hone hl hB
  unfold Oper.wp execOp
  simp only [ho, resolve, invoke, builtin, Sem.run_bind, Sem.run_pure, Result.andThen_ok, List.map_toArray, List.map_cons, List.map_nil, hs, hy, hr]
  exact h v' w' h1 h2
theorem bfam_slices {w : World} {B : Nat} {v : Value} {its : List It} (h : BFam w B v its) : ∀ x ∈ its, ∃ a n c, x.2.1 = .slice a n c := by
  intro x hx
  obtain ⟨a, c, e⟩ := row_shape (bfam_mem h hx).1
  exact ⟨a, _, c, e⟩
theorem bfam_one {w : World} {B : Nat} {v : Value} {its : List It} (h : BFam w B v its) : ∀ u ∈ its.map (fun (z : It) => z.2.1), u.oneCell' = true := by
  intro u hu
  obtain ⟨x, hx, rfl⟩ := List.mem_map.1 hu
  obtain ⟨a, n, c, e⟩ := bfam_slices h x hx
  rw [e]
  rfl
/-- the rows of blocks' bodies -/
def rwOf (its : List It) : List Rw := its.map fun x => (x.2.1, x.2.2)
theorem rwOf_fst (its : List It) : (rwOf its).map (·.1) = its.map (fun (z : It) => z.2.1) := by simp [rwOf]
/-- two families that lie apart -/
theorem fam_app {w : World} {B : Nat} {xs ys : List Rw} (h : Fam w B xs) (k : Fam w B ys) (hx : ∀ r ∈ xs, ∀ s ∈ ys, ∀ g, r.1.ownBlock = some g → s.1.ownBlock ≠ some g) : Fam w B (xs ++ ys) := by
  have get : ∀ (i : Nat) (r : Rw), (xs ++ ys)[i]? = some r → (xs[i]? = some r ∧ i < xs.length) ∨ (ys[i - xs.length]? = some r ∧ xs.length ≤ i) := by
    intro i r hi
    by_cases hl : i < xs.length
    · rw [List.getElem?_append_left hl] at hi
      exact .inl ⟨hi, hl⟩
    · rw [List.getElem?_append_right (by omega)] at hi
      exact .inr ⟨hi, by omega⟩
  refine ⟨fun i r hr => ?_, fun i j r s hij hr hs g hg => ?_⟩
  · rcases get i r hr with ⟨h1, _⟩ | ⟨h1, _⟩
    · exact h.1 i r h1
    · exact k.1 _ r h1
  · rcases get i r hr with ⟨h1, l1⟩ | ⟨h1, l1⟩
    · rcases get j s hs with ⟨h2, l2⟩ | ⟨h2, l2⟩
      · exact h.2 i j r s hij h1 h2 g hg
      · exact hx r (List.mem_of_getElem? h1) s (List.mem_of_getElem? h2) g hg
    · rcases get j s hs with ⟨h2, l2⟩ | ⟨h2, l2⟩
      · intro e
        exact hx s (List.mem_of_getElem? h2) r (List.mem_of_getElem? h1) g e hg
      · exact k.2 _ _ r s (by omega) h1 h2 g hg
/-- where the blocks of a family lie -/
theorem fam_at {w : World} {B : Nat} {rows : List Rw} (h : Fam w B rows) {r : Rw} (hr : r ∈ rows) {g : Nat} (hg : r.1.ownBlock = some g) : B ≤ g ∧ g < w.heap.size := by
  obtain ⟨k, hk⟩ := List.mem_iff_getElem?.1 hr
  exact World.ownsRow.lt (h.1 k r hk).1 g hg
theorem fam_both {w : World} {B M : Nat} {xs ys : List Rw} (h : Fam w B xs) (k : Fam w M ys) (hB : B ≤ M) (hx : ∀ r ∈ xs, ∀ g, r.1.ownBlock = some g → g < M) : Fam w B (xs ++ ys) :=
  fam_app h (fam_mono k hB) fun r hr s hs g hg e => by
    have := hx r hr g hg
    have := (fam_at k hs e).1
    omega
theorem inrows_mem {rows : List Rw} {g : Nat} (h : InRows rows g) : ∃ r ∈ rows, r.1.ownBlock = some g := by
  obtain ⟨k, r, hr, hg⟩ := h
  exact ⟨r, List.mem_of_getElem? hr, hg⟩
theorem inrows_cells {w : World} {B : Nat} {rows : List Rw} (h : Fam w B rows) {g : Nat} (hg : InRows rows g) : ∃ cs, w.heap[g]? = some (.cells cs 5 (0, 0)) := by
  obtain ⟨k, r, hr, hg⟩ := hg
  rcases (h.1 k r hr).1.2 with ⟨h1, _⟩ | ⟨g', cap, cur, h1, _, hh, _⟩
  · rw [h1] at hg; cases hg
  · rw [h1] at hg
    simp only [Value.ownBlock, Option.some.injEq] at hg
    subst hg
    exact ⟨cur, hh⟩
theorem kept_under {W W' : World} {B Bx g : Nat} {bs : List Nat} (h : Kept W Bx g bs) (hb : Below B W W') (h1 : Bx < B) (h2 : g < B) : Kept W' Bx g bs :=
  ⟨(hb.block _ h1).trans h.1, (hb.block _ h2).trans h.2⟩
theorem fam_one {w : World} {B : Nat} {v : Value} {bs : List Nat} (h : Own w B v bs) (hx : ∀ x ∈ bs, x < 256) : Fam w B [(v, bs)] := by
  refine ⟨fun i r hr => ?_, fun i j r s hij hr hs => ?_⟩
  · match i, hr with
    | 0, hr => simp at hr; subst hr; exact ⟨h, hx⟩
  · match i, j, hr, hs with
    | 0, 0, _, _ => exact absurd rfl hij
theorem rw_body {its : List It} {bl : List Bl} (h : blOf its = bl) {r : Rw} (hr : r ∈ rwOf its) : ∃ t, (t, r.2) ∈ bl := by
  obtain ⟨x, hx, rfl⟩ := List.mem_map.1 hr
  refine ⟨x.1, ?_⟩
  rw [← h]
  exact List.mem_map.2 ⟨x, hx, rfl⟩
end Go.Proofs.YtgebekklkodpaaaDoor
