/- lists of numbers that are marked, then grown, each in a block of its own -/
import Derived.Test.YtbimpoabiafdaaaDoorNw
import Derived.Deep.AppendLies
namespace Go.Proofs.YtbimpoabiafdaaaDoor
open Go.RowKit Vf
def OwI (w : World) (B : Nat) (v : Value) (zs : List Int) : Prop := w.ownsRow B 3 1 v zs.length (intCells zs)
theorem intCells_app (l m : List Int) : intCells (l ++ m) = intCells l ++ intCells m := by simp [intCells]
theorem owi_keep {w w' : World} {B : Nat} {v : Value} {zs : List Int} (h : OwI w B v zs) (hb : Below w.heap.size w w') : OwI w' B v zs := row_keepTy h (keepTy_below hb 3)
theorem owi_form {w : World} {B : Nat} {v : Value} {zs : List Int} (h : OwI w B v zs) (hl : 0 < zs.length) : ∃ g cap, v = .slice (some ⟨g, 0, none⟩) zs.length cap := Joins.ownsRow_form h hl
/-- a cell of an own row is written -/
theorem owi_put {w : World} {B g n cap : Nat} {bs : List Int} (h : OwI w B (.slice (some ⟨g, 0, none⟩) n cap) bs) (j : Nat) (y : Int) :
    OwI (w.setCell ⟨g, j, none⟩ (.int .i64 y)) B (.slice (some ⟨g, 0, none⟩) n cap) (bs.set j y) := by
  unfold OwI at *
  rw [List.length_set]
  obtain ⟨hl, h⟩ := h
  refine ⟨by simp [intCells], ?_⟩
  rcases h with ⟨h, _⟩ | ⟨g', cap', cur, hv, hb, hh, hn, hm, hs, ht⟩
  · simp at h
  · simp only [Value.slice.injEq, Option.some.injEq, Addr.mk.injEq] at hv
    obtain ⟨⟨rfl, _⟩, rfl, rfl⟩ := hv
    refine .inr ⟨g, cap, cur.setIfInBounds j (.int .i64 y), rfl, hb, heap_set hh _, hn, hm, by rw [Array.size_setIfInBounds]; exact hs, ?_⟩
    rw [Array.toList_setIfInBounds, List.take_set, ht]
    simp [intCells, List.map_set]
/-- a cell of another block is written -/
theorem owi_far {w : World} {B : Nat} {v : Value} {bs : List Int} (h : OwI w B v bs) (a : Addr) (x : Value) (hne : v.ownBlock ≠ some a.block) : OwI (w.setCell a x) B v bs := by
  obtain ⟨hl, h⟩ := h
  refine ⟨hl, ?_⟩
  rcases h with h | ⟨g, cap, cur, rfl, hb, hh, hn⟩
  · exact .inl h
  · refine .inr ⟨g, cap, cur, rfl, hb, heap_far hh (fun e => hne ?_) x, hn⟩
    rw [← e]
    rfl
/-- own rows, pairwise apart -/
def Fam (w : World) (B : Nat) (rows : List (Value × List Int)) : Prop :=
  (∀ (i : Nat) (r : Value × List Int), rows[i]? = some r → OwI w B r.1 r.2 ∧ ∀ x ∈ r.2, x = x) ∧
    ∀ (i j : Nat) (r s : Value × List Int), i ≠ j → rows[i]? = some r → rows[j]? = some s → ∀ g, r.1.ownBlock = some g → s.1.ownBlock ≠ some g
theorem fam_keep {w w' : World} {B : Nat} {rows : List (Value × List Int)} (h : Fam w B rows) (hb : Below w.heap.size w w') : Fam w' B rows :=
  ⟨fun i r hr => ⟨owi_keep (h.1 i r hr).1 hb, (h.1 i r hr).2⟩, h.2⟩
theorem fam_put {w : World} {B g n cap : Nat} {rows : List (Value × List Int)} {bs : List Int} (h : Fam w B rows) (i j : Nat) (y : Int) (hi : rows[i]? = some (.slice (some ⟨g, 0, none⟩) n cap, bs)) (hy : y = y) :
    Fam (w.setCell ⟨g, j, none⟩ (.int .i64 y)) B (rows.set i (.slice (some ⟨g, 0, none⟩) n cap, bs.set j y)) := by
  obtain ⟨h1, h2⟩ := h
  have hil := (List.getElem?_eq_some_iff.1 hi).1
  refine ⟨fun k r hr => ?_, fun k l r s hkl hr hs => ?_⟩
  · by_cases hk : k = i
    · subst hk
      rw [List.getElem?_set_self hil, Option.some.injEq] at hr
      subst hr
      refine ⟨owi_put (h1 k _ hi).1 j y, fun x hx => ?_⟩
      rcases List.mem_or_eq_of_mem_set hx with h | h
      · exact (h1 k _ hi).2 x h
      · omega
    · rw [List.getElem?_set_ne (fun e => hk e.symm)] at hr
      exact ⟨owi_far (h1 k r hr).1 _ _ (h2 i k _ r (fun e => hk e.symm) hi hr g rfl), (h1 k r hr).2⟩
  · have row : ∀ (m : Nat) (q : Value × List Int), (rows.set i (.slice (some ⟨g, 0, none⟩) n cap, bs.set j y))[m]? = some q → ∃ bs', rows[m]? = some (q.1, bs') := by
      intro m q hq
      by_cases hm : m = i
      · subst hm
        rw [List.getElem?_set_self hil, Option.some.injEq] at hq
        subst hq
        exact ⟨bs, hi⟩
      · rw [List.getElem?_set_ne (fun e => hm e.symm)] at hq
        exact ⟨q.2, hq⟩
    obtain ⟨b1, hr'⟩ := row k r hr
    obtain ⟨b2, hs'⟩ := row l s hs
    exact h2 k l (r.1, b1) (s.1, b2) hkl hr' hs'
/-- one row grows -/
theorem fam_grow {w w' : World} {B g : Nat} {rows : List (Value × List Int)} {v v' : Value} {bs bs' : List Int} (h : Fam w B rows) (i : Nat) (hi : rows[i]? = some (v, bs)) (hown : OwI w' B v' bs') (hx : ∀ x ∈ bs', x = x)
    (hg : w.grownBy w' v.ownBlock) (hv' : v'.ownBlock = some g) (hat : v.ownBlock = some g ∨ g = w.heap.size) : Fam w' B (rows.set i (v', bs')) := by
  obtain ⟨h1, h2⟩ := h
  have hil := (List.getElem?_eq_some_iff.1 hi).1
  have lt : ∀ (k : Nat) (r : Value × List Int), rows[k]? = some r → ∀ q, r.1.ownBlock = some q → q < w.heap.size := fun k r hr q hq => (World.ownsRow.lt (h1 k r hr).1 q hq).2
  have new : ∀ (k : Nat) (r : Value × List Int), k ≠ i → rows[k]? = some r → r.1.ownBlock ≠ some g := by
    intro k r hk hr e
    rcases hat with h | h
    · exact h2 k i r _ hk hr hi g e h
    · have := lt k r hr g e
      omega
  refine ⟨fun k r hr => ?_, fun k l r s hkl hr hs q hq => ?_⟩
  · by_cases hk : k = i
    · subst hk
      rw [List.getElem?_set_self hil, Option.some.injEq] at hr
      subst hr
      exact ⟨hown, hx⟩
    · rw [List.getElem?_set_ne (fun e => hk e.symm)] at hr
      refine ⟨World.ownsRow.kept (h1 k r hr).1 hg ?_, (h1 k r hr).2⟩
      cases hb : r.1.ownBlock with
      | none => exact .inl rfl
      | some q => exact .inr (fun e => h2 k i r _ hk hr hi q hb e.symm)
  · by_cases hk : k = i
    · subst hk
      rw [List.getElem?_set_self hil, Option.some.injEq] at hr
      subst hr
      rw [List.getElem?_set_ne hkl] at hs
      have : q = g := Option.some.inj (hq.symm.trans hv')
      subst this
      exact new l s (fun e => hkl e.symm) hs
    · rw [List.getElem?_set_ne (fun e => hk e.symm)] at hr
      by_cases hl : l = i
      · subst hl
        rw [List.getElem?_set_self hil, Option.some.injEq] at hs
        subst hs
        rw [hv']
        intro e
        obtain rfl := Option.some.inj e
        exact new k r hk hr hq
      · rw [List.getElem?_set_ne (fun e => hl e.symm)] at hs
        exact h2 k l r s hkl hr hs q hq
theorem below_undrew' {w w' : World} {B : Nat} (h : Below B w.drew w') : Below B w w' := ⟨h.os, h.tape, h.output, h.size, h.block⟩
theorem below_new (w : World) (o : Obj) : Below w.heap.size w (w.drew.alloc o) := below_undrew' ((Below.refl w.drew.heap.size w.drew).alloc (Nat.le_refl _) o)
/-- a row of bytes grown by one byte: in its place, or in the block that is made now -/
def Grown (w : World) (B : Nat) (v : Value) (cur : List Int) (x : Int) (g cap : Nat) (w' : World) : Prop :=
  OwI w' B (.slice (some ⟨g, 0, none⟩) (cur.length + 1) cap) (cur ++ [x]) ∧
    ((v = .slice (some ⟨g, 0, none⟩) cur.length cap ∧ w.grownBy w' (some g)) ∨ (g = w.heap.size ∧ Below w.heap.size w w'))
theorem intc_snoc (cur : List Int) (x : Int) : intCells (cur ++ [x]) = intCells cur ++ [.int .i64 x] := by rw [intCells_app]; rfl
set_option maxRecDepth 100000 in
theorem run_grow (w : World) (B : Nat) (v : Value) (cur : List Int) (x : Int) (ty : TypeId) (hown : OwI w B v cur) (ad : Addr) (c : Nat) (hnew : w.cell? ad = some (.int .i64 x)) (hl : cur.length + 1 ≤ 17592186044416) (hB : B ≤ w.heap.size) :
    ∃ g cap w', (Builtin.append_ #[22, 22] ty #[v, .slice (some ad) 1 c]).run Tryd.prog w = .ok (.slice (some ⟨g, 0, none⟩) (cur.length + 1) cap) w' ∧ Grown w B v cur x g cap w' := by
  obtain ⟨i0, hi, hz0, hz1, hz2⟩ := info_parts info3
  have hnews : ∀ j u, [Value.int .i64 x][j]? = some u → w.cell? (ad.add j) = some u := by
    intro j u hu
    match j, hu with
    | 0, hu =>
      simp at hu
      subst hu
      rw [Addr.add_zero']
      exact hnew
  have hone : ∀ u ∈ [Value.int .i64 x], u.oneCell' = true := by
    intro u hu
    simp at hu
    subst hu
    rfl
  obtain ⟨g, cap, w', hr, h2, h3, h4, h5⟩ := run_append_lies (P := Tryd.prog) w 22 ty B 3 i0 (.int .i64 0) 1 8 Tryd.underlying22 hi hz0 hz1 hz2 rfl (by decide) v cur.length (intCells cur) hown ad 1 c [.int .i64 x] rfl hnews hone (by decide) (by simp only [maxLen]; omega) (by omega) hB _ rfl
  have hO : OwI w' B (.slice (some ⟨g, 0, none⟩) (cur.length + 1) cap) (cur ++ [x]) := by
    unfold OwI
    rw [List.length_append, intc_snoc]
    exact h2
  refine ⟨g, cap, w', hr, hO, ?_⟩
  have mk : ∀ (v1 : Value) (w1 : World), (Builtin.append_ #[22, 22] ty #[v, .slice (some ad) 1 c]).run Tryd.prog w = .ok v1 w1 → v1 = .slice (some ⟨g, 0, none⟩) (cur.length + 1) cap ∧ w1 = w' := by
    intro v1 w1 h
    rw [hr] at h
    injection h with h1 h2
    exact ⟨h1.symm, h2.symm⟩
  rcases hown.2 with ⟨rfl, h0⟩ | ⟨g0, cap0, cur0, rfl, hb, hh, hn, hm, hs, ht⟩
  · obtain ⟨e1, e2⟩ := mk _ _ (run_append_nil (P := Tryd.prog) w 22 ty 3 i0 (.int .i64 0) Tryd.underlying22 hi hz0 ad 1 c [.int .i64 x] (by rw [hz1]; rfl) hnews (by decide) (by decide) (by rw [hz2]; decide))
    simp only [Value.slice.injEq, Option.some.injEq, Addr.mk.injEq] at e1
    exact .inr ⟨e1.1.1.symm, e2 ▸ below_new w _⟩
  · by_cases hroom : cur.length + 1 ≤ cap0
    · obtain ⟨e1, e2⟩ := mk _ _ (run_append_room (P := Tryd.prog) w 22 ty 3 i0 Tryd.underlying22 hi g0 cur.length cap0 cur0 hh ad 1 c [.int .i64 x] (by rw [hz1]; rfl) hnews hone hroom (by rw [hz1, hs]; simp; omega))
      simp only [Value.slice.injEq, Option.some.injEq, Addr.mk.injEq] at e1
      obtain ⟨⟨rfl, _⟩, _, rfl⟩ := e1
      exact .inl ⟨rfl, h3⟩
    · have holds : ∀ j u, (intCells cur)[j]? = some u → w.cell? ((⟨g0, 0, none⟩ : Addr).add j) = some u := World.ownsRow.cells hown (g := g0) rfl
      obtain ⟨e1, e2⟩ := mk _ _ (run_append_grow (P := Tryd.prog) w 22 ty 3 i0 (.int .i64 0) Tryd.underlying22 hi hz0 ⟨g0, 0, none⟩ cur.length cap0 (intCells cur) (by rw [hz1]; simp [intCells_len]) holds ad 1 c [.int .i64 x] (by rw [hz1]; rfl) hnews (by omega) (by omega) (growslice_fits (by omega) (by rw [hz2]; omega)))
      simp only [Value.slice.injEq, Option.some.injEq, Addr.mk.injEq] at e1
      exact .inr ⟨e1.1.1.symm, e2 ▸ below_new w _⟩
/-- at a step of a region that draws -/
theorem step_grow {ops : Array Oper} {o : Oper} {a : Act} {K : Act → World → Prop} {Q : Exit → Act → World → Prop} {E : Prop} (w : World) (B : Nat) (v : Value) (cur : List Int) (x : Int) (hgd : o.guard = none) (s y : Operand)
    (ho : o.op = .call { callee := .builtin .append, args := #[s, y], argTypes := #[22, 22] }) (hs : a.eval s = v) (ad : Addr) (c : Nat) (hy : a.eval y = .slice (some ad) 1 c)
    (hown : OwI w B v cur) (hnew : w.cell? ad = some (.int .i64 x)) (hl : cur.length + 1 ≤ 17592186044416) (hB : B ≤ w.heap.size)
    (h : ∀ g cap w', Grown w B v cur x g cap w' → K (a.put o.dst (.slice (some ⟨g, 0, none⟩) (cur.length + 1) cap)) w') :
    if Region.wanted o (yielded ops a.tmps) = true then Oper.wp Tryd.prog o a w K Q else E := by
  have hw : Region.wanted o (yielded ops a.tmps) = true := by simp [Region.wanted, hgd]
  rw [if_pos hw]
  obtain ⟨g, cap, w', hr, hg⟩ := run_grow w B v cur x o.type hown ad c hnew hl hB
  unfold Oper.wp execOp
  simp only [ho, resolve, invoke, builtin, Sem.run_bind, Sem.run_pure, Result.andThen_ok, List.map_toArray, List.map_cons, List.map_nil, hs, hy, hr]
  exact h g cap w' hg

abbrev Rw := Value × List Int
/-- the blocks of some rows -/
def InRows (rows : List Rw) (g : Nat) : Prop := ∃ (k : Nat) (r : Rw), rows[k]? = some r ∧ r.1.ownBlock = some g
/-- all but the rows' blocks is as it was -/
structure Foot (w w' : World) (S : Nat → Prop) : Prop where
  os : w'.os = w.os
  tape : w'.tape = w.tape
  output : w'.output = w.output
  size : w.heap.size ≤ w'.heap.size
  block : ∀ k, k < w.heap.size → ¬ S k → w'.heap[k]? = w.heap[k]?
theorem Foot.refl (w : World) (S : Nat → Prop) : Foot w w S := ⟨rfl, rfl, rfl, Nat.le_refl _, fun _ _ _ => rfl⟩
theorem Foot.drewN {w w' : World} {S : Nat → Prop} (h : Foot w w' S) (n : Nat) : Foot w (w'.drewN n) S := ⟨h.os, h.tape, h.output, h.size, h.block⟩
theorem Foot.drew {w w' : World} {S : Nat → Prop} (h : Foot w w' S) : Foot w w'.drew S := ⟨h.os, h.tape, h.output, h.size, h.block⟩
theorem Foot.below {w w' : World} {S : Nat → Prop} {B : Nat} (h : Foot w w' S) (hS : ∀ g, S g → B ≤ g) (hB : B ≤ w.heap.size) : Below B w w' :=
  ⟨h.os, h.tape, h.output, h.size, fun k hk => h.block k (by omega) (fun hs => by have := hS k hs; omega)⟩
theorem Foot.setCell {w w' : World} {S : Nat → Prop} (h : Foot w w' S) (a : Addr) (x : Value) (ha : S a.block ∨ w.heap.size ≤ a.block) : Foot w (w'.setCell a x) S :=
  ⟨h.os, h.tape, h.output, by rw [World.size_setCell]; exact h.size, fun k hk hs => by
    rw [Below.heap_setCell w' a x k (fun e => by subst e; rcases ha with h | h; exact hs h; omega)]
    exact h.block k hk hs⟩
theorem Foot.grown {w w' w2 : World} {S : Nat → Prop} (h : Foot w w' S) {r : Option Nat} (hg : w'.grownBy w2 r) (hr : ∀ g, r = some g → S g ∨ w.heap.size ≤ g) : Foot w w2 S :=
  ⟨hg.os.trans h.os, hg.tape.trans h.tape, hg.output.trans h.output, Nat.le_trans h.size hg.size, fun k hk hs => by
    rw [hg.block k (Nat.lt_of_lt_of_le hk h.size) (fun e => by rcases hr k e.symm with h | h; exact hs h; omega)]
    exact h.block k hk hs⟩
theorem Foot.keep {w w' w2 : World} {S : Nat → Prop} (h : Foot w w' S) (hb : Below w'.heap.size w' w2) : Foot w w2 S :=
  h.grown (r := none) ⟨hb.os, hb.tape, hb.output, hb.size, fun k hk _ => hb.block k hk⟩ (fun _ e => by cases e)

/-- a row that began as r is c now: still in its place, or elsewhere and r left alone -/
def Link (w : World) (B : Nat) (r c : Rw) (cur : List Rw) : Prop :=
  (∃ g cap, r.1 = .slice (some ⟨g, 0, none⟩) r.2.length cap ∧ c.1 = .slice (some ⟨g, 0, none⟩) c.2.length cap ∧ r.2.length ≤ c.2.length ∧ c.2.take r.2.length = r.2) ∨
    (OwI w B r.1 r.2 ∧ ∀ g, r.1.ownBlock = some g → ∀ (l : Nat) (d : Rw), cur[l]? = some d → d.1.ownBlock ≠ some g)
structure St (w0 w : World) (B : Nat) (rows cur : List Rw) : Prop where
  fam : Fam w B cur
  len : cur.length = rows.length
  link : ∀ (k : Nat) (r c : Rw), rows[k]? = some r → cur[k]? = some c → Link w B r c cur
  at_ : ∀ (l : Nat) (d : Rw) (g : Nat), cur[l]? = some d → d.1.ownBlock = some g → InRows rows g ∨ w0.heap.size ≤ g
  foot : Foot w0 w (InRows rows)
theorem owi_trunc {w : World} {B g m cap : Nat} {xs : List Int} (h : OwI w B (.slice (some ⟨g, 0, none⟩) xs.length cap) xs) (hm : m ≤ xs.length) : OwI w B (.slice (some ⟨g, 0, none⟩) m cap) (xs.take m) := by
  unfold OwI at *
  rw [List.length_take, Nat.min_eq_left hm]
  refine ⟨by simp [intCells]; omega, ?_⟩
  rcases h.2 with ⟨h, _⟩ | ⟨g', cap', cur, hv, hb, hh, hn, hmx, hs, ht⟩
  · simp at h
  · simp only [Value.slice.injEq, Option.some.injEq, Addr.mk.injEq] at hv
    obtain ⟨⟨rfl, _⟩, _, rfl⟩ := hv
    refine .inr ⟨g, cap, cur, rfl, hb, hh, by omega, hmx, hs, ?_⟩
    have e : intCells (xs.take m) = (intCells xs).take m := by simp [intCells, List.map_take]
    rw [e, ← ht, List.take_take]
    congr 1
    omega
theorem st_start {w0 w : World} {B : Nat} {rows : List Rw} (h : Fam w B rows) (hf : Foot w0 w (InRows rows)) : St w0 w B rows rows := by
  refine ⟨h, rfl, fun k r c hr hc => ?_, fun l d g hd hg => .inl ⟨l, d, hd, hg⟩, hf⟩
  obtain rfl : r = c := Option.some.inj (hr.symm.trans hc)
  obtain ⟨ho, _⟩ := h.1 k r hr
  have ho' := ho
  rcases ho.2 with ⟨h1, h0⟩ | ⟨g, cap, cur, h1, _⟩
  · refine .inr ⟨ho', fun g hg => ?_⟩
    rw [h1] at hg
    cases hg
  · exact .inl ⟨g, cap, h1, h1, Nat.le_refl _, List.take_length⟩
theorem link_keep {w w' : World} {B : Nat} {r c : Rw} {cur : List Rw} (h : Link w B r c cur) (hk : ∀ v bs, OwI w B v bs → (∀ g, v.ownBlock = some g → ∀ (l : Nat) (d : Rw), cur[l]? = some d → d.1.ownBlock ≠ some g) → OwI w' B v bs) : Link w' B r c cur := by
  rcases h with h | ⟨h1, h2⟩
  · exact .inl h
  · exact .inr ⟨hk _ _ h1 h2, h2⟩
theorem st_drewN {w0 w : World} {B : Nat} {rows cur : List Rw} (h : St w0 w B rows cur) (n : Nat) : St w0 (w.drewN n) B rows cur :=
  ⟨h.fam, h.len, h.link, h.at_, h.foot.drewN n⟩
theorem st_drew {w0 w : World} {B : Nat} {rows cur : List Rw} (h : St w0 w B rows cur) : St w0 w.drew B rows cur :=
  ⟨h.fam, h.len, h.link, h.at_, h.foot.drew⟩
theorem st_keep {w0 w w' : World} {B : Nat} {rows cur : List Rw} (h : St w0 w B rows cur) (hb : Below w.heap.size w w') : St w0 w' B rows cur :=
  ⟨fam_keep h.fam hb, h.len, fun k r c hr hc => link_keep (h.link k r c hr hc) (fun _ _ ho _ => owi_keep ho hb), h.at_, h.foot.keep hb⟩
/-- a cell of a block of another type, made since, is written -/
theorem owi_type {w : World} {B G : Nat} {v : Value} {bs : List Int} {cs : Array Value} {t : TypeId} {fr : Nat × Nat} (h : OwI w B v bs) (hG : w.heap[G]? = some (.cells cs t fr)) (ht : t ≠ 3) : v.ownBlock ≠ some G := by
  intro e
  rcases h.2 with ⟨rfl, _⟩ | ⟨g, cap, cur, rfl, _, hh, _⟩
  · cases e
  · simp only [Value.ownBlock, Option.some.injEq] at e
    subst e
    rw [hh] at hG
    simp only [Option.some.injEq, Obj.cells.injEq] at hG
    exact ht hG.2.1.symm
theorem fam_far {w : World} {B : Nat} {rows : List Rw} (h : Fam w B rows) (a : Addr) (x : Value) (hne : ∀ (k : Nat) (r : Rw), rows[k]? = some r → r.1.ownBlock ≠ some a.block) : Fam (w.setCell a x) B rows :=
  ⟨fun i r hr => ⟨owi_far (h.1 i r hr).1 a x (hne i r hr), (h.1 i r hr).2⟩, h.2⟩
theorem st_other {w0 w : World} {B G : Nat} {rows cur : List Rw} {cs : Array Value} {t : TypeId} {fr : Nat × Nat} (h : St w0 w B rows cur) (hG : w.heap[G]? = some (.cells cs t fr)) (ht : t ≠ 3) (hg : w0.heap.size ≤ G) (j : Nat) (x : Value) :
    St w0 (w.setCell ⟨G, j, none⟩ x) B rows cur :=
  ⟨fam_far h.fam _ _ (fun k r hr => owi_type (h.fam.1 k r hr).1 hG ht), h.len, fun k r c hr hc => link_keep (h.link k r c hr hc) (fun _ _ ho _ => owi_far ho _ _ (owi_type ho hG ht)), h.at_, h.foot.setCell _ _ (.inr hg)⟩
/-- one row grows -/
theorem st_grow {w0 w w' : World} {B g cap : Nat} {rows cur : List Rw} {v : Value} {bs : List Int} {x : Int} (h : St w0 w B rows cur) (i : Nat) (hi : cur[i]? = some (v, bs)) (hx : x = x) (hg : Grown w B v bs x g cap w') :
    St w0 w' B rows (cur.set i (.slice (some ⟨g, 0, none⟩) (bs.length + 1) cap, bs ++ [x])) := by
  obtain ⟨hO, hcase⟩ := hg
  have hil := (List.getElem?_eq_some_iff.1 hi).1
  have hown := (h.fam.1 i _ hi).1
  have hlt : ∀ (v : Value) (bs : List Int), OwI w B v bs → ∀ q, v.ownBlock = some q → q < w.heap.size := fun v bs ho q hq => (World.ownsRow.lt ho q hq).2
  have hgr : w.grownBy w' v.ownBlock := by
    rcases hcase with ⟨rfl, h1⟩ | ⟨_, h1⟩
    · exact h1
    · exact ⟨h1.os, h1.tape, h1.output, h1.size, fun k hk _ => h1.block k hk⟩
  have hat : v.ownBlock = some g ∨ g = w.heap.size := by
    rcases hcase with ⟨rfl, _⟩ | ⟨h1, _⟩
    · exact .inl rfl
    · exact .inr h1
  have h256 : ∀ y ∈ bs ++ [x], y = y := by
    intro y hy
    rcases List.mem_append.1 hy with hy | hy
    · exact (h.fam.1 i _ hi).2 y hy
    · simp at hy; omega
  have hvb : v.ownBlock = some g → InRows rows g ∨ w0.heap.size ≤ g := fun e => h.at_ i _ g hi e
  -- the blocks of the new family
  have row : ∀ (l : Nat) (d : Rw), (cur.set i (.slice (some ⟨g, 0, none⟩) (bs.length + 1) cap, bs ++ [x]))[l]? = some d → (l = i ∧ d = (.slice (some ⟨g, 0, none⟩) (bs.length + 1) cap, bs ++ [x])) ∨ (l ≠ i ∧ cur[l]? = some d) := by
    intro l d hd
    by_cases hl : l = i
    · subst hl
      rw [List.getElem?_set_self hil, Option.some.injEq] at hd
      exact .inl ⟨rfl, hd.symm⟩
    · rw [List.getElem?_set_ne (fun e => hl e.symm)] at hd
      exact .inr ⟨hl, hd⟩
  -- a row that is nobody's now stays so
  have away : ∀ (u : Value) (us : List Int), OwI w B u us → (∀ q, u.ownBlock = some q → ∀ (l : Nat) (d : Rw), cur[l]? = some d → d.1.ownBlock ≠ some q) →
      OwI w' B u us ∧ ∀ q, u.ownBlock = some q → ∀ (l : Nat) (d : Rw), (cur.set i (.slice (some ⟨g, 0, none⟩) (bs.length + 1) cap, bs ++ [x]))[l]? = some d → d.1.ownBlock ≠ some q := by
    intro u us hu hq
    refine ⟨World.ownsRow.kept hu hgr ?_, fun q hqq l d hd => ?_⟩
    · cases hb : u.ownBlock with
      | none => exact .inl rfl
      | some q => exact .inr (fun e => hq q hb i _ hi e.symm)
    · rcases row l d hd with ⟨rfl, rfl⟩ | ⟨_, hd⟩
      · intro e
        simp only [Value.ownBlock, Option.some.injEq] at e
        subst e
        rcases hat with h1 | h1
        · exact hq g hqq l _ hi h1
        · have := hlt u us hu g hqq
          omega
      · exact hq q hqq l d hd
  refine ⟨fam_grow h.fam i hi hO h256 hgr rfl hat, by rw [List.length_set]; exact h.len, fun k r c hr hc => ?_, fun l d q hd hq => ?_, h.foot.grown hgr (fun q hq => h.at_ i _ q hi hq)⟩
  · rcases row k c hc with ⟨rfl, rfl⟩ | ⟨hki, hc⟩
    · rcases h.link k r _ hr hi with ⟨g1, cap1, h1, h2, h3, h4⟩ | ⟨h1, h2⟩
      · simp only at h2 h3 h4
        rcases hcase with ⟨e, _⟩ | ⟨e, hb⟩
        · rw [e] at h2
          simp only [Value.slice.injEq, Option.some.injEq, Addr.mk.injEq] at h2
          obtain ⟨⟨rfl, _⟩, _, rfl⟩ := h2
          refine .inl ⟨g, cap, h1, by simp, by simp; omega, ?_⟩
          rw [List.take_append_of_le_length h3]
          exact h4
        · refine .inr ⟨?_, fun q hq l d hd => ?_⟩
          · rw [h2] at hown
            have ht := owi_trunc hown h3
            simp only [h4] at ht
            rw [h1]
            exact owi_keep ht hb
          · have hq1 : g1 = q := by rw [h1] at hq; simpa [Value.ownBlock] using hq
            subst hq1
            have hvg : v.ownBlock = some g1 := by rw [h2]; rfl
            rcases row l d hd with ⟨rfl, rfl⟩ | ⟨hl, hd⟩
            · intro e'
              simp only [Value.ownBlock, Option.some.injEq] at e'
              have := hlt v bs hown g1 hvg
              omega
            · exact h.fam.2 k l _ d (fun e => hl e.symm) hi hd g1 hvg
      · exact .inr (away _ _ h1 h2)
    · rcases h.link k r c hr hc with h1 | ⟨h1, h2⟩
      · exact .inl h1
      · exact .inr (away _ _ h1 h2)
  · rcases row l d hd with ⟨rfl, rfl⟩ | ⟨_, hd⟩
    · simp only [Value.ownBlock, Option.some.injEq] at hq
      subst hq
      rcases hat with h1 | h1
      · exact hvb h1
      · exact .inr (by have := h.foot.size; omega)
    · exact h.at_ l d q hd hq
/-- the rows as they began -/
theorem st_orig {w0 w : World} {B : Nat} {rows cur : List Rw} (h : St w0 w B rows cur) (k : Nat) (r : Rw) (hr : rows[k]? = some r) : OwI w B r.1 r.2 := by
  have hkl : k < cur.length := by rw [h.len]; exact (List.getElem?_eq_some_iff.1 hr).1
  have hc := List.getElem?_eq_getElem hkl
  rcases h.link k r _ hr hc with ⟨g, cap, h1, h2, h3, h4⟩ | ⟨h1, _⟩
  · have hown := (h.fam.1 k _ hc).1
    rw [h2] at hown
    have ht := owi_trunc hown h3
    rw [h4] at ht
    rw [h1]
    exact ht
  · exact h1
end Go.Proofs.YtbimpoabiafdaaaDoor
