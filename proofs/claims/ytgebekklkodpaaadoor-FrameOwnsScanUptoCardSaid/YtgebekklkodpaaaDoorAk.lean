/- appends that tell what stays, by the types of the blocks; places of blocks one behind the other -/
import Derived.Test.YtgebekklkodpaaaDoorSd
import Derived.Test.YtgebekklkodpaaaDoorSame
namespace Go.Proofs.YtgebekklkodpaaaDoor
open Go.RowKit

set_option maxRecDepth 100000 in
theorem append_srcK {ops : Array Oper} {rest : List Oper} {o : Oper} {a : Act} {Q : Exit → Act → World → Prop} (w0 w : World) (B : Nat) (v xv : Value) (cur bs : List Nat) (hgd : o.guard = none) (s x : Operand)
    (ho : o.op = .call { callee := .builtin .append, args := #[s, x], argTypes := #[25, 25] }) (hs : a.eval s = v) (hx : a.eval x = xv)
    (hown : Own w B v cur) (hsrc : Src w xv bs) (hl : cur.length + bs.length ≤ 140737488355328) (hB : B ≤ w.heap.size) (hb : Below B w0 w)
    (h : ∀ v' w', Own w' B v' (cur ++ bs) → Below B w0 w' → (∀ t, 5 ≠ t → KeepTy w w' t) → wpList Tryd.prog ops Q rest (a.put o.dst v') w') : wpList Tryd.prog ops Q (o :: rest) a w := by
  obtain ⟨i0, hi, hz0, hz1, hz2⟩ := info_parts info5
  rcases hsrc with ⟨_, ⟨rfl, rfl⟩ | ⟨ad, cap, rfl, _, _, hc⟩⟩
  · refine wpList_append_own_none hgd s x 25 ho B 5 i0 1 Tryd.underlying25 hi v cur.length (u8s cur) hs hown hx (h v w ?_ hb (fun t _ k cs fr hk => hk))
    rw [List.append_nil]
    exact hown
  · refine wpList_append_own w hgd s x 25 ho B 5 i0 (.int .u8 0) 1 1 Tryd.underlying25 hi hz0 hz1 hz2 rfl (by decide) v cur.length (u8s cur) hs hown ad bs.length cap (u8s bs) hx (by simp [u8s_len]) (src_news hc) (u8s_one _) (by simp only [maxLen]; omega) (by omega) hB ?_
    intro v' w' hown' hg _
    refine h v' w' ?_ (hb.grown hg hB (fun k hk => (World.ownsRow.lt hown k hk).1)) (fun t ht => keepTy_grown hg (notTy_row hown ht))
    unfold Own
    rw [u8s_app, List.length_append]
    exact hown'
set_option maxRecDepth 100000 in
theorem append_intK {ops : Array Oper} {rest : List Oper} {o : Oper} {a : Act} {Q : Exit → Act → World → Prop} (w0 w : World) (B g n : Nat) (v : Value) (ns : List Nat) (hgd : o.guard = none) (s y : Operand)
    (ho : o.op = .call { callee := .builtin .append, args := #[s, y], argTypes := #[63, 63] }) (hs : a.eval s = v) (hy : a.eval y = .slice (some ⟨g, 0, none⟩) 1 1)
    (hown : IOwn w B v ns) (hh : w.heap[g]? = some (.cells #[.int .i64 (n : Nat)] 3 (0, 0))) (hl : ns.length ≤ 1099511627776) (hB : B ≤ w.heap.size) (hb : Below B w0 w)
    (h : ∀ v' w', IOwn w' B v' (ns ++ [n]) → Below B w0 w' → (∀ t, 3 ≠ t → KeepTy w w' t) → wpList Tryd.prog ops Q rest (a.put o.dst v') w') :
    wpList Tryd.prog ops Q (o :: rest) a w := by
  obtain ⟨i0, hi, hz0, hz1, hz2⟩ := info_parts info3
  refine wpList_append_own w hgd s y 63 ho B 3 i0 (.int .i64 0) 1 8 Tryd.underlying63 hi hz0 hz1 hz2 rfl (by decide) v ns.length (i64s ns) hs hown ⟨g, 0, none⟩ 1 1 (i64s [n]) hy rfl ?_ ?_ (by simp only [maxLen]; omega) (by omega) hB ?_
  · intro j x hx
    have e : w.cell? ((⟨g, 0, none⟩ : Addr).add j) = w.cell? ⟨g, j, none⟩ := by rw [Addr.add_lit, Nat.zero_add]
    rw [e, cell_at hh]
    simpa [i64s] using hx
  · intro x hx
    simp only [i64s, List.map_cons, List.map_nil, List.mem_cons, List.not_mem_nil, or_false] at hx
    subst hx
    rfl
  · intro v' w' hown' hg _
    refine h v' w' ?_ (hb.grown hg hB (fun k hk => (World.ownsRow.lt hown k hk).1)) (fun t ht => keepTy_grown hg (notTy_row hown ht))
    unfold IOwn
    rw [i64s_app, List.length_append]
    exact hown'

/-- a row of numbers, or its beginning, reads as a list -/
theorem iown_ints {w : World} {B : Nat} {v : Value} {ns : List Nat} (h : IOwn w B v ns) : Ints w v ns := by
  rcases h.2 with ⟨rfl, h0⟩ | ⟨g, cap, cur, rfl, _, hh, hn, hm, hs, ht⟩
  · rw [List.eq_nil_of_length_eq_zero h0]
    exact ⟨none, 0, rfl, by simp⟩
  · refine ⟨some ⟨g, 0, none⟩, cap, rfl, fun k n hk => ⟨_, rfl, ?_⟩⟩
    have hkl := (List.getElem?_eq_some_iff.1 hk).1
    have hu : (i64s ns)[k]? = some (.int .i64 (n : Nat)) := by simp [i64s, hk]
    rw [← ht, List.getElem?_take, if_pos (by omega), Array.getElem?_toList] at hu
    rw [Addr.add_lit, Nat.zero_add, cell_at hh]
    exact hu
theorem ints_take {w : World} {ao : Option Addr} {n cap : Nat} {ns : List Nat} (h : Ints w (.slice ao n cap) ns) (k : Nat) (hk : k ≤ ns.length) (c : Nat) : Ints w (.slice ao k c) (ns.take k) := by
  obtain ⟨ao', cap', e, hc⟩ := h
  simp only [Value.slice.injEq] at e
  obtain ⟨rfl, _, _⟩ := e
  refine ⟨ao, c, by rw [List.length_take, Nat.min_eq_left hk], fun j m hj => ?_⟩
  rw [List.getElem?_take] at hj
  split at hj
  · exact hc j m hj
  · cases hj
theorem iown_shape {w : World} {B : Nat} {v : Value} {ns : List Nat} (h : IOwn w B v ns) : ∃ ao cap, v = .slice ao ns.length cap ∧ ns.length ≤ cap ∧ cap ≤ 9223372036854775807 := by
  rcases h.2 with ⟨rfl, h0⟩ | ⟨g, cap, cur, rfl, _, hh, hn, hm, hs, ht⟩
  · exact ⟨none, 0, by rw [h0], by omega, by omega⟩
  · exact ⟨_, cap, rfl, hn, hm⟩
theorem iown_below {w w' : World} {B : Nat} {v : Value} {ns : List Nat} (h : IOwn w B v ns) (hb : Below w.heap.size w w') : IOwn w' B v ns := row_keepTy h (keepTy_below hb 3)

/-- where blocks one behind the other begin -/
def plcs : Nat → List Bl → List Nat
  | _, [] => []
  | a, x :: r => a :: plcs (a + (enc x.1 x.2).length) r
theorem plcs_len : ∀ (a : Nat) (bl : List Bl), (plcs a bl).length = bl.length
  | _, [] => rfl
  | a, x :: r => by rw [plcs, List.length_cons, List.length_cons, plcs_len]
theorem plcs_snoc : ∀ (a : Nat) (bl : List Bl) (x : Bl), plcs a (bl ++ [x]) = plcs a bl ++ [a + (encs bl).length]
  | a, [], x => by simp [plcs, encs]
  | a, y :: r, x => by
    rw [List.cons_append, plcs, plcs, plcs_snoc _ r x, List.cons_append]
    congr 3
    simp [encs]
    omega
theorem scan_encs : ∀ (bl : List Bl) (f a : Nat) (rest : List Nat), bl.length < f → (∀ x ∈ bl, x.1 ≠ 0 ∧ x.1 < 256 ∧ (∀ y ∈ x.2, y < 256) ∧ x.2.length < 18446744073709551616) → scan f a (encs bl ++ 0 :: rest) = (plcs a bl, bl)
  | [], f, a, rest, hf, _ => by
    rw [scan_err f a _ 0 (by simp [encs, dec])]
    rfl
  | x :: r, f, a, rest, hf, h => by
    obtain ⟨h0, h1, h2, h3⟩ := h x (by simp)
    obtain ⟨f', rfl⟩ : ∃ f', f = f' + 1 := ⟨f - 1, by simp at hf; omega⟩
    have he : encs (x :: r) ++ 0 :: rest = enc x.1 x.2 ++ (encs r ++ 0 :: rest) := by simp [encs]
    have hd := dec_enc x.1 x.2 (encs r ++ 0 :: rest) h0 h1 h2 h3
    have hlen := enc_length x.1 x.2
    rw [he, scan_ok f' a _ _ _ hd]
    have hj : 1 + (Uv.uv x.2.length).length + x.2.length + 4 = (enc x.1 x.2).length := hlen.symm
    rw [hj, List.drop_left, scan_encs r f' _ rest (by simp at hf; omega) (fun y hy => h y (by simp [hy]))]
    have e1 : (enc x.1 x.2 ++ (encs r ++ 0 :: rest)).getD 0 0 = x.1 := by simp [enc, encHead]
    have e2 : ((enc x.1 x.2 ++ (encs r ++ 0 :: rest)).take (1 + (Uv.uv x.2.length).length + x.2.length)).drop (1 + (Uv.uv x.2.length).length) = x.2 := by
      have e : enc x.1 x.2 ++ (encs r ++ 0 :: rest) = (([x.1] ++ Uv.uv x.2.length) ++ x.2) ++ (Uv.word (sum (encHead x.1 x.2)) ++ (encs r ++ 0 :: rest)) := by simp [enc, encHead]
      have hA : ([x.1] ++ Uv.uv x.2.length).length = 1 + (Uv.uv x.2.length).length := by simp; omega
      rw [e, List.take_left' (by simp; omega), List.drop_left' hA]
    rw [e1, e2]
    rfl
variable {F : Fence} {n : Nat} {P : Program}

def mk_ (D : Nat) : Deferred := { target := .collected D, args := #[] }
/-- the blocks of the marks: apart, new, no call in them -/
def Marks (W : World) (B : Nat) (Ds : List Nat) : Prop := Ds.Nodup ∧ ∀ D ∈ Ds, B ≤ D ∧ W.heap[D]? = some (.deferred (some []))
theorem marks_nil (W : World) (B : Nat) : Marks W B [] := ⟨List.nodup_nil, by simp⟩
/-- all blocks but those of the marks lie as they lay -/
def Past (W W' : World) (B : Nat) : Prop := Below B W W' ∧ ∀ (k : Nat) (cs : Array Value) (t : TypeId) (fr : Nat × Nat), W.heap[k]? = some (.cells cs t fr) → W'.heap[k]? = some (.cells cs t fr)
theorem leaves_marks {fn : Func} {tmps : Array Value} {R : Ending → World → Prop} {B : Nat} : ∀ (Ds : List Nat) (W : World), Marks W B Ds → B ≤ W.heap.size → (∀ W', Past W W' B → LeavesInM F n P fn tmps R [] .returning W') → LeavesInM F n P fn tmps R (Ds.map mk_) .returning W
  | [], W, _, _, h => h W ⟨Below.refl _ _, fun _ _ _ _ hk => hk⟩
  | D :: Ds, W, hM, hB, h => by
    obtain ⟨hnd, hall⟩ := hM
    obtain ⟨hBD, hD⟩ := hall D (by simp)
    have hg := grownBy_putObj' W D (.deferred none)
    refine ⟨by simp, .inl ⟨D, _, rfl, run_takeDeferred hD, ?_⟩⟩
    refine leaves_marks Ds _ ⟨(List.nodup_cons.1 hnd).2, fun D' hD' => ⟨(hall D' (by simp [hD'])).1, ?_⟩⟩ (Nat.le_trans hB hg.size) fun W' hp => h W' ⟨?_, fun k cs t fr hk => hp.2 k cs t fr ?_⟩
    · have hne : D' ≠ D := fun e => (List.nodup_cons.1 hnd).1 (e ▸ hD')
      exact (World.putObj_heap_other hne).trans (hall D' (by simp [hD'])).2
    · exact ((Below.refl B W).grown hg hB (fun k e => by cases e; exact hBD)).trans hp.1
    · refine (World.putObj_heap_other (fun e => ?_)).trans hk
      subst e
      rw [hk] at hD
      cases hD
theorem marks_keep {W W' : World} {B : Nat} {Ds : List Nat} (h : Marks W B Ds) (hk : ∀ D ∈ Ds, ∀ o, W.heap[D]? = some o → o.isCells = false → W'.heap[D]? = some o) : Marks W' B Ds :=
  ⟨h.1, fun D hD => ⟨(h.2 D hD).1, hk D hD _ (h.2 D hD).2 rfl⟩⟩
theorem marks_others {W W' : World} {B : Nat} {Ds : List Nat} (h : Marks W B Ds) (hk : KeepsOthers W W') : Marks W' B Ds := marks_keep h (fun D _ o ho hc => hk.same D o ho hc)
theorem marks_lt {W : World} {B : Nat} {Ds : List Nat} (h : Marks W B Ds) {D : Nat} (hD : D ∈ Ds) : D < W.heap.size := heap_lt (h.2 D hD).2
theorem marks_grown {W W' : World} {B : Nat} {Ds : List Nat} {row : Option Nat} (h : Marks W B Ds) (hg : W.grownBy W' row) (hr : ∀ r, row = some r → r ∉ Ds) : Marks W' B Ds :=
  marks_keep h (fun D hD o ho _ => (hg.block D (heap_lt ho) (fun e => hr D e.symm hD)).trans ho)
theorem marks_below {W W' : World} {B : Nat} {Ds : List Nat} (h : Marks W B Ds) (hb : Below W.heap.size W W') : Marks W' B Ds := marks_grown h (grown_of_below hb) (fun _ e => by cases e)
theorem marks_cons {W : World} {B D : Nat} {Ds : List Nat} (h : Marks W B Ds) (hD : W.heap[D]? = some (.deferred (some []))) (hn : D ∉ Ds) (hB : B ≤ D) : Marks W B (D :: Ds) :=
  ⟨List.nodup_cons.2 ⟨hn, h.1⟩, fun D' hD' => by
    rcases List.mem_cons.1 hD' with rfl | hD'
    · exact ⟨hB, hD⟩
    · exact h.2 D' hD'⟩

theorem bod_at {w w' : World} {v : Value} {bs : List Nat} (h : Bod w v bs) (hk : ∀ (k : Nat) (cs : Array Value) (fr : Nat × Nat), v.ownBlock = some k → w.heap[k]? = some (.cells cs 5 fr) → w'.heap[k]? = some (.cells cs 5 fr)) : Bod w' v bs := by
  refine ⟨?_, fun g hg => ?_⟩
  · rcases h.1 with ⟨h1, h2 | ⟨ad, cap, rfl, h3, h4, hc⟩⟩
    · exact ⟨h1, .inl h2⟩
    · obtain ⟨cs, fr, hh⟩ := h.2 _ rfl
      refine ⟨h1, .inr ⟨ad, cap, rfl, h3, h4, fun k y hky => ?_⟩⟩
      rw [← hc k y hky]
      exact World.cell?_of_block (by rw [add_blk, hh]; exact hk _ _ _ rfl hh)
  · obtain ⟨cs, fr, hh⟩ := h.2 g hg
    exact ⟨cs, fr, hk _ _ _ hg hh⟩
end Go.Proofs.YtgebekklkodpaaaDoor
