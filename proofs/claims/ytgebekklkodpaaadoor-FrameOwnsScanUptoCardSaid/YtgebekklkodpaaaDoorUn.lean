/- plain: what an image's bytes are; rows of blocks -/
import Derived.Test.YtgebekklkodpaaaDoorDcAny
import Derived.Test.YtgebekklkodpaaaDoorBlk
namespace Go.Proofs.YtgebekklkodpaaaDoor
open Go.RowKit

/-- n blocks, and nothing behind them -/
def blks : Nat → List Nat → Nat ⊕ List Bl
  | 0, r => if r = [] then .inr [] else .inl 5
  | n + 1, r =>
    match dec r with
    | .inl g => .inl g
    | .inr (i, j) =>
      match blks n (r.drop (j + 4)) with
      | .inl g => .inl g
      | .inr bl => .inr ((r.getD 0 0, (r.take j).drop i) :: bl)
/-- blocks ahead of an answer -/
def ahead (acc : List Bl) : Nat ⊕ List Bl → Nat ⊕ List Bl
  | .inl g => .inl g
  | .inr bl => .inr (acc ++ bl)
theorem ahead_nil (a : Nat ⊕ List Bl) : ahead [] a = a := by cases a <;> rfl
theorem ahead_step (acc : List Bl) (n : Nat) (r : List Nat) (i j : Nat) (h : dec r = .inr (i, j)) :
    ahead acc (blks (n + 1) r) = ahead (acc ++ [(r.getD 0 0, (r.take j).drop i)]) (blks n (r.drop (j + 4))) := by
  rw [blks, h]
  simp only
  cases blks n (r.drop (j + 4)) with
  | inl g => rfl
  | inr bl => simp [ahead]
theorem ahead_err (acc : List Bl) (n : Nat) (r : List Nat) (g : Nat) (h : dec r = .inl g) : ahead acc (blks (n + 1) r) = .inl g := by
  rw [blks, h]
  rfl
/-- what an image's bytes are, asked for a kind: the error by its variable's number, or the blocks -/
def unp (kind : Nat) (im : List Nat) : Nat ⊕ List Bl :=
  if im.length < 10 then .inl 1
  else if wordAt im (im.length - 4) ≠ seal_ (im.take (im.length - 4)) then .inl 6
  else if kind = 0 ∨ im.take 4 ≠ [99, 110, 99, 100] ∨ im.getD 4 0 ≠ kind then .inl 0
  else if (Nm.num 10 0 ((im.take (im.length - 4)).drop 5)).2 ≠ 0 then .inl (Nm.num 10 0 ((im.take (im.length - 4)).drop 5)).2
  else blks (Nm.val (((im.take (im.length - 4)).drop 5).take (Nm.num 10 0 ((im.take (im.length - 4)).drop 5)).1)) (((im.take (im.length - 4)).drop 5).drop (Nm.num 10 0 ((im.take (im.length - 4)).drop 5)).1)

/-! rows of blocks that a call owns -/
/-- a block that was taken: its tag, its body's value, its body -/
abbrev It := Nat × Value × List Nat
def cellsOf (its : List It) : List Value := its.flatMap fun x => [.int .u8 (x.1 : Nat), x.2.1]
def blOf (its : List It) : List Bl := its.map fun x => (x.1, x.2.2)
theorem cellsOf_len (its : List It) : (cellsOf its).length = its.length * 2 := by
  induction its with
  | nil => rfl
  | cons x r ih => simp only [cellsOf, List.flatMap_cons, List.length_append, List.length_cons, List.length_nil] at *; omega
theorem cellsOf_app (xs ys : List It) : cellsOf (xs ++ ys) = cellsOf xs ++ cellsOf ys := by simp [cellsOf]
theorem cellsOf_get (its : List It) (k : Nat) (x : It) (h : its[k]? = some x) : (cellsOf its)[2 * k]? = some (.int .u8 (x.1 : Nat)) ∧ (cellsOf its)[2 * k + 1]? = some x.2.1 := by
  induction its generalizing k with
  | nil => simp at h
  | cons y r ih =>
    cases k with
    | zero =>
      simp only [List.getElem?_cons_zero, Option.some.injEq] at h
      subst h
      exact ⟨rfl, rfl⟩
    | succ k =>
      have := ih k (by simpa using h)
      rw [show 2 * (k + 1) = 2 * k + 1 + 1 by omega]
      exact this
theorem blOf_app (xs ys : List It) : blOf (xs ++ ys) = blOf xs ++ blOf ys := by simp [blOf]
def BOwn (w : World) (B : Nat) (v : Value) (its : List It) : Prop :=
  w.ownsRow B 47 2 v its.length (cellsOf its) ∧ ∀ x ∈ its, x.1 < 256 ∧ Bod w x.2.1 x.2.2
theorem bod_keep {w w' : World} {v : Value} {bs : List Nat} (h : Bod w v bs) (hb : Below w.heap.size w w') : Bod w' v bs :=
  ⟨src_keep h.1 hb, fun g hg => by
    obtain ⟨cs, fr, hh⟩ := h.2 g hg
    exact ⟨cs, fr, (hb.block g (heap_lt hh)).trans hh⟩⟩
theorem bown_nil (w : World) (B : Nat) : BOwn w B (.slice none 0 0) [] := ⟨World.ownsRow_nil w B 47 2, fun x hx => by cases hx⟩
theorem bown_keep {w w' : World} {B : Nat} {v : Value} {its : List It} (h : BOwn w B v its) (hb : Below w.heap.size w w') : BOwn w' B v its :=
  ⟨World.ownsRow.kept (row := none) h.1 ⟨hb.os, hb.tape, hb.output, hb.size, fun k hk _ => hb.block k hk⟩ (by cases hv : v.ownBlock <;> simp), fun x hx => ⟨(h.2 x hx).1, bod_keep (h.2 x hx).2 hb⟩⟩
/-- a body stays where another row grows -/
theorem bod_grown {w w' : World} {v : Value} {bs : List Nat} {row : Option Nat} (h : Bod w v bs) (hg : w.grownBy w' row) (hne : ∀ g, v.ownBlock = some g → some g ≠ row) : Bod w' v bs := by
  refine ⟨?_, fun g hgo => ?_⟩
  · rcases h.1 with ⟨h1, h2 | ⟨ad, cap, rfl, h3, h4, hc⟩⟩
    · exact ⟨h1, .inl h2⟩
    · exact ⟨h1, .inr ⟨ad, cap, rfl, h3, h4, fun k y hk => hg.cell (hc k y hk) (by rw [add_blk]; exact hne _ rfl)⟩⟩
  · obtain ⟨cs, fr, hh⟩ := h.2 g hgo
    exact ⟨cs, fr, (hg.block g (heap_lt hh) (hne g hgo)).trans hh⟩
theorem info47 : (Tryd.prog.info? 47).map (fun i => (i.zero, i.size, i.bytes)) = some (some (.agg #[.int .u8 0, .slice none 0 0]), 2, 32) := by kernel_rfl

theorem src_one {w : World} {v : Value} {bs : List Nat} (h : Src w v bs) : v.oneCell' = true := by
  rcases h with ⟨_, ⟨rfl, _⟩ | ⟨ad, cap, rfl, _⟩⟩ <;> rfl
set_option maxRecDepth 100000 in
theorem append_blk {ops : Array Oper} {rest : List Oper} {o : Oper} {a : Act} {Q : Exit → Act → World → Prop} (w0 w : World) (B g : Nat) (v : Value) (its : List It) (x : It) (hgd : o.guard = none) (s y : Operand)
    (ho : o.op = .call { callee := .builtin .append, args := #[s, y], argTypes := #[38, 38] }) (hs : a.eval s = v) (hy : a.eval y = .slice (some ⟨g, 0, none⟩) 1 1)
    (hown : BOwn w B v its) (hx : x.1 < 256) (hbod : Bod w x.2.1 x.2.2) (hh : w.heap[g]? = some (.cells #[.int .u8 (x.1 : Nat), x.2.1] 47 (0, 0))) (hl : its.length ≤ 1099511627776) (hB : B ≤ w.heap.size) (hb : Below B w0 w)
    (h : ∀ v' w', BOwn w' B v' (its ++ [x]) → Below B w0 w' → wpList Tryd.prog ops Q rest (a.put o.dst v') w') :
    wpList Tryd.prog ops Q (o :: rest) a w := by
  obtain ⟨i0, hi, hz0, hz1, hz2⟩ := info_parts info47
  refine wpList_append_own w hgd s y 38 ho B 47 i0 (.agg #[.int .u8 0, .slice none 0 0]) 2 32 Tryd.underlying38 hi hz0 hz1 hz2 rfl (by decide) v its.length (cellsOf its) hs hown.1 ⟨g, 0, none⟩ 1 1 (cellsOf [x]) hy rfl ?_ ?_ (by simp only [maxLen]; omega) (by omega) hB ?_
  · intro j u hu
    have e : w.cell? ((⟨g, 0, none⟩ : Addr).add j) = w.cell? ⟨g, j, none⟩ := by
      unfold Addr.add
      split
      · rename_i hj; rw [hj]
      · simp
    rw [e, cell_at hh]
    simpa [cellsOf] using hu
  · intro u hu
    simp only [cellsOf, List.flatMap_cons, List.flatMap_nil, List.append_nil, List.mem_cons, List.not_mem_nil, or_false] at hu
    rcases hu with rfl | rfl
    · rfl
    · exact src_one hbod.1
  · intro v' w' hown' hg _
    have hne : ∀ (u : Value) (bs : List Nat), Bod w u bs → ∀ k, u.ownBlock = some k → some k ≠ v.ownBlock := by
      intro u bs hu k hk e
      obtain ⟨cs, fr, hc⟩ := hu.2 k hk
      rcases hown.1.2 with ⟨rfl, _⟩ | ⟨g', cap, cur, rfl, _, hh', _⟩
      · simp [Value.ownBlock] at e
      · simp only [Value.ownBlock, Option.some.injEq] at e
        subst e
        rw [hh'] at hc
        simp at hc
    refine h v' w' ⟨?_, ?_⟩ (hb.grown hg hB (fun k hk => (World.ownsRow.lt hown.1 k hk).1))
    · rw [cellsOf_app, List.length_append]
      exact hown'
    · intro z hz
      rcases List.mem_append.1 hz with hz | hz
      · exact ⟨(hown.2 z hz).1, bod_grown (hown.2 z hz).2 hg (hne _ _ (hown.2 z hz).2)⟩
      · simp only [List.mem_cons, List.not_mem_nil, or_false] at hz
        subst hz
        exact ⟨hx, bod_grown hbod hg (hne _ _ hbod)⟩
/-- an owned row reads as a list of blocks -/
theorem bown_blocks {w : World} {B : Nat} {v : Value} {its : List It} (h : BOwn w B v its) : Blocks w v (blOf its) := by
  have hlen : (blOf its).length = its.length := by simp [blOf]
  rcases h.1.2 with ⟨rfl, h0⟩ | ⟨g, cap, cur, rfl, _, hh, hn, hm, _, ht⟩
  · exact .inl ⟨rfl, by rw [List.eq_nil_of_length_eq_zero h0]; rfl⟩
  · refine .inr ⟨⟨g, 0, none⟩, cap, by rw [hlen], by rw [hlen]; exact hn, by simp only [maxLen] at hm; omega, fun k x hk => ?_⟩
    simp only [blOf, List.getElem?_map, Option.map_eq_some_iff] at hk
    obtain ⟨y, hy, rfl⟩ := hk
    obtain ⟨h1, h2⟩ := h.2 y (List.mem_of_getElem? hy)
    obtain ⟨c1, c2⟩ := cellsOf_get its k y hy
    have hkl := (List.getElem?_eq_some_iff.1 hy).1
    have hcell : ∀ m, m < its.length * 2 → w.cell? ⟨g, m, none⟩ = (cellsOf its)[m]? := fun m hm' => by
      rw [cell_at hh, ← ht, List.getElem?_take, if_pos hm', Array.getElem?_toList]
    have e : ∀ m : Nat, w.cell? ((⟨g, 0, none⟩ : Addr).add m) = w.cell? ⟨g, m, none⟩ := fun m => by
      unfold Addr.add
      split
      · rename_i hj; rw [hj]
      · simp
    refine ⟨h1, y.2.1, ?_, ?_, h2.1⟩
    · rw [e, hcell _ (by omega)]; exact c1
    · rw [Addr.add_add, e, hcell _ (by omega)]; exact c2
end Go.Proofs.YtgebekklkodpaaaDoor
