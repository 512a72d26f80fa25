/- VerifyMemory: what the law keeps in memory -/
import Derived.Test.YtbimpoabiafdaaaDoorMw
import Derived.Test.YtbimpoabiafdaaaDoorOwiW
import Derived.Laws.CopyOwn
namespace Go.Proofs.YtbimpoabiafdaaaDoor
open Go.RowKit Vf
noncomputable def hlOf (P : Prg) : List Int := match ans P with
  | none => []
  | some H => H.map Int.ofNat
noncomputable def eOf (P : Prg) : Int := match ans P with
  | none => 21
  | some _ => 0
noncomputable def selOf (P : Prg) (bad ok : Value) : Value := match ans P with
  | none => bad
  | some _ => ok
theorem hl_len (P : Prg) : (hlOf P).length ≤ P.code.length := by
  unfold hlOf
  cases h : ans P with
  | none => simp
  | some H => simpa using (ans_len h).2.1
theorem hs_own {P : Prg} {bad ok : Value} {B : Nat} {e : Ending} {w' : World} (h : HsOut P bad ok B e w') (hl : P.code.length ≤ 1099511627776) :
    ∃ a c, e = .returned (.tuple #[.slice a (hlOf P).length c, selOf P bad ok]) ∧ OwI w' B (.slice a (hlOf P).length c) (hlOf P) := by
  unfold HsOut at h
  unfold hlOf selOf
  cases ha : ans P with
  | none =>
    rw [ha] at h
    exact ⟨none, 0, h, World.ownsRow_nil _ _ _ _⟩
  | some H =>
    rw [ha] at h
    obtain ⟨g, hg, h1, h2⟩ := h
    have hll := (ans_len ha).2.1
    have e1 : (H.map Int.ofNat).length = H.length := by simp
    have e2 : intCells (H.map Int.ofNat) = nats H := by simp [intCells, nats]
    refine ⟨some ⟨g, 0, none⟩, H.length, by simpa using h1, ?_⟩
    unfold OwI
    rw [e2, e1]
    exact ⟨by simp [nats], .inr ⟨g, H.length, _, rfl, hg, h2, Nat.le_refl _, by simp only [maxLen]; omega, by simp [nats], by rw [Nat.mul_one, List.take_of_length_le (by simp [nats])]⟩⟩
theorem num_sel (P : Prg) (w : World) (E : Nat → Addr) (h : Errs w E allErrs) : Calls Tryd.prog 14 #[selOf P (.iface 108 (.pointer (some (E 0)))) .nilIface] w fun e w' => e = .returned (.int .i64 (eOf P)) ∧ w = w' := by
  unfold selOf eOf
  cases ans P with
  | none => exact num_code w E h
  | some H => exact num_nil w
theorem sel_int (P : Prg) : selOf P (.int .i64 21) (.int .i64 0) = .int .i64 (eOf P) := by
  unfold selOf eOf
  cases ans P <;> rfl
/-- whose averages are all -1: no good program -/
theorem minus_ans (P : Prg) (n : Nat) (h : P.avgs = List.replicate n (-1)) : ans P = none := by
  refine ans_none fun c _ ht => ?_
  exfalso
  have h1 := ht.1
  have h2 := ht.2.2.1 (-1) (by rw [h] at h1 ⊢; simp at h1 ⊢; omega)
  omega
theorem grown_set (w : World) (g i : Nat) (x : Value) : w.grownBy (w.setCell ⟨g, i, none⟩ x) (some g) :=
  ⟨rfl, rfl, rfl, by rw [World.size_setCell]; exact Nat.le_refl _, fun k _ hne => Below.heap_setCell w _ _ k (fun e => hne (by rw [e]))⟩
theorem grown_row (w : World) (g : Nat) (cs : Array Value) : w.grownBy (w.setRow g cs) (some g) :=
  ⟨rfl, rfl, rfl, by simp [World.setRow], fun k _ hne => setRow_other w g k cs (fun e => hne (by rw [e]))⟩
section
variable {W4 wr w' : World} {B N N2 G : Nat} {va vc vn vd vb : Value} {al : Bool} {P : Prg} {zs : List Int} {cs : List (Int × ByteArray)}
/-- the averages' row is written into -/
theorem MoSt.setA (h : MoSt W4 wr B N N2 G va vc vn vd vb al P zs cs) (zs' : List Int) (hg : wr.grownBy w' va.ownBlock) (hr : w'.ownsRow B 3 1 va zs'.length (intCells zs')) : MoSt W4 w' B N N2 G va vc vn vd vb al P zs' cs := by
  have hgG := keepTy_grown hg (notTy_row (h.fam.1 0 _ rfl) (t := 27) (by show (3 : Nat) ≠ 27; decide)) _ _ _ h.g
  have hfa := fa_grow h.fam (j := 0) rfl (r' := ⟨3, 1, va, zs'.length, intCells zs'⟩) hr hg (.inl rfl)
  rw [upd0] at hfa
  have hbB : Below B W4 w' := h.below.grown hg (by have := h.n2.2; have := h.b; omega) (fun k hk => (World.ownsRow.lt (h.fam.1 0 _ rfl) k hk).1)
  exact ⟨hgG, hfa, h.apA, h.apC, fun k h1 h2 => (hg.block k (by have := h.n2.2; omega) (fun e => by rcases h.apA k e.symm with e | e <;> omega)).trans (h.hi k h1 h2), ⟨h.n2.1, Nat.le_trans h.n2.2 hg.size⟩, h.b, hbB⟩
/-- the code's row is written into -/
theorem MoSt.setB (h : MoSt W4 wr B N N2 G va vc vn vd vb al P zs cs) (bs : List Nat) (hlow : ∀ k, vb.ownBlock = some k → k < N) (hg : wr.grownBy w' vb.ownBlock) (hr : w'.ownsRow B 5 1 vb bs.length (u8s bs)) : MoSt W4 w' B N N2 G va vc vn vd vb al { P with code := bs } zs cs := by
  have hgG := keepTy_grown hg (notTy_row (h.fam.1 3 _ rfl) (t := 27) (by show (5 : Nat) ≠ 27; decide)) _ _ _ h.g
  have hfa := fa_grow h.fam (j := 3) rfl (r' := ⟨5, 1, vb, bs.length, u8s bs⟩) hr hg (.inl rfl)
  rw [upd3] at hfa
  have hbB : Below B W4 w' := h.below.grown hg (by have := h.n2.2; have := h.b; omega) (fun k hk => (World.ownsRow.lt (h.fam.1 3 _ rfl) k hk).1)
  exact ⟨hgG, hfa, h.apA, h.apC, fun k h1 h2 => (hg.block k (by have := h.n2.2; omega) (fun e => by have := hlow k e.symm; omega)).trans (h.hi k h1 h2), ⟨h.n2.1, Nat.le_trans h.n2.2 hg.size⟩, h.b, hbB⟩
end
/-- a byte of an own row is written -/
theorem own_put {w : World} {B g n cap : Nat} {bs : List Nat} (h : Own w B (.slice (some ⟨g, 0, none⟩) n cap) bs) (j y : Nat) :
    Own (w.setCell ⟨g, j, none⟩ (.int .u8 (y : Nat))) B (.slice (some ⟨g, 0, none⟩) n cap) (bs.set j y) := by
  unfold Own at *
  rw [List.length_set]
  obtain ⟨hl, h⟩ := h
  refine ⟨by simp [u8s], ?_⟩
  rcases h with ⟨h, _⟩ | ⟨g', cap', cur, hv, hb, hh, hn, hm, hs, ht⟩
  · simp at h
  · simp only [Value.slice.injEq, Option.some.injEq, Addr.mk.injEq] at hv
    obtain ⟨⟨rfl, _⟩, rfl, rfl⟩ := hv
    refine .inr ⟨g, cap, cur.setIfInBounds j (.int .u8 (y : Nat)), rfl, hb, heap_set hh _, hn, hm, by rw [Array.size_setIfInBounds]; exact hs, ?_⟩
    rw [Array.toList_setIfInBounds, List.take_set, ht]
    simp [u8s, List.map_set]
/-- the whole row is written over -/
theorem own_over {w : World} {B g cap : Nat} {bs cs : List Nat} (hl : cs.length = bs.length) (h : Own w B (.slice (some ⟨g, 0, none⟩) bs.length cap) bs) :
    ∃ cur : Array Value, w.heap[g]? = some (.cells cur 5 (0, 0)) ∧ (u8s cs).length ≤ cur.size ∧ Own (w.setRow g (cur.toList.take 0 ++ (u8s cs ++ cur.toList.drop (0 + (u8s cs).length))).toArray) B (.slice (some ⟨g, 0, none⟩) bs.length cap) cs := by
  rcases h.2 with ⟨h0, _⟩ | ⟨g', cap', cur, hv, hb, hh, hn, hm, hs, ht⟩
  · simp at h0
  · simp only [Value.slice.injEq, Option.some.injEq, Addr.mk.injEq] at hv
    obtain ⟨⟨rfl, _⟩, _, rfl⟩ := hv
    have hl2 : (u8s cs).length ≤ cur.size := by rw [u8s_len]; omega
    refine ⟨cur, hh, hl2, ?_⟩
    unfold Own
    rw [hl]
    refine ⟨by simp [u8s, hl], .inr ⟨g, cap, _, rfl, hb, setRow_heap w g _ _ 5 _ hh, hn, hm, ?_, ?_⟩⟩
    · simp only [List.take_zero, List.nil_append, List.size_toArray, List.length_append, List.length_drop, Array.length_toList]
      rw [u8s_len] at hl2 ⊢
      omega
    · simp only [List.take_zero, List.nil_append]
      rw [List.take_append_of_le_length (by rw [u8s_len]; omega), List.take_of_length_le (by rw [u8s_len]; omega)]
/-- the first i bytes are 0 -/
def zeroed (i : Nat) (bs : List Nat) : List Nat := List.replicate i 0 ++ bs.drop i
theorem zeroed_zero (bs : List Nat) : zeroed 0 bs = bs := by simp [zeroed]
theorem zeroed_len (i : Nat) (bs : List Nat) (h : i ≤ bs.length) : (zeroed i bs).length = bs.length := by simp [zeroed]; omega
theorem zeroed_step (i : Nat) (bs : List Nat) (h : i < bs.length) : (zeroed i bs).set i 0 = zeroed (i + 1) bs := by
  unfold zeroed
  rw [List.set_append_right _ _ (by simp), List.length_replicate, Nat.sub_self, List.drop_eq_getElem_cons h, List.set_cons_zero, List.replicate_succ', List.append_assoc]
  rfl
theorem zeroed_lt {bs : List Nat} (i : Nat) (h : ∀ x ∈ bs, x < 256) : ∀ x ∈ zeroed i bs, x < 256 := by
  intro x hx
  rcases List.mem_append.1 hx with hx | hx
  · have := List.eq_of_mem_replicate hx; omega
  · exact h x (List.mem_of_mem_drop hx)
/-- the first i averages are -1 -/
def minus (i : Nat) (zs : List Int) : List Int := List.replicate i (-1) ++ zs.drop i
theorem minus_zero (zs : List Int) : minus 0 zs = zs := by simp [minus]
theorem minus_len (i : Nat) (zs : List Int) (h : i ≤ zs.length) : (minus i zs).length = zs.length := by simp [minus]; omega
theorem minus_step (i : Nat) (zs : List Int) (h : i < zs.length) : (minus i zs).set i (-1) = minus (i + 1) zs := by
  unfold minus
  rw [List.set_append_right _ _ (by simp), List.length_replicate, Nat.sub_self, List.drop_eq_getElem_cons h, List.set_cons_zero, List.replicate_succ', List.append_assoc]
  rfl
theorem minus_all (zs : List Int) : minus zs.length zs = List.replicate zs.length (-1) := by simp [minus]
theorem owi_apart {w w' : World} {B : Nat} {v : Value} {zs : List Int} {row : Option Nat} (h : OwI w B v zs) (hg : w.grownBy w' row) (ha : ∀ k, v.ownBlock = some k → row ≠ some k) : OwI w' B v zs := by
  refine World.ownsRow.kept h hg ?_
  cases hb : v.ownBlock with
  | none => exact .inl rfl
  | some g => exact .inr (fun e => ha g hb e.symm)
theorem owi_other {w w' : World} {B t e s n : Nat} {v u : Value} {zs : List Int} {xs : List Value} (h : OwI w B v zs) (hr : w.ownsRow t e s u n xs) (he : e ≠ 3) (hg : w.grownBy w' u.ownBlock) : OwI w' B v zs := row_kept h hg (notTy_row hr he)
theorem owi_mono {w : World} {B B' : Nat} {v : Value} {zs : List Int} (h : OwI w B v zs) (hb : B' ≤ B) : OwI w B' v zs := row_mono h hb
theorem owi_nil (w : World) (B : Nat) : OwI w B (.slice none 0 0) [] := World.ownsRow_nil _ _ _ _
/-- the five lists of the law -/
theorem fam5 {w : World} {B S1 S2 : Nat} {a b x y : Value} {za zb zx zy : List Int} (ha : OwI w B a za) (hb : OwI w B b zb) (hx : OwI w B x zx) (hy : OwI w B y zy)
    (ka : ∀ k, a.ownBlock = some k → S1 ≤ k ∧ k < S2) (kb : ∀ k, b.ownBlock = some k → S2 ≤ k) (kx : ∀ k, x.ownBlock = some k → k < S1) (ky : ∀ k, y.ownBlock = some k → k < S1) (h12 : S1 ≤ S2) (hxy : ∀ k, x.ownBlock = some k → y.ownBlock ≠ some k) :
    Fam w B [(a, za), (b, zb), (.slice none 0 0, []), (x, zx), (y, zy)] := by
  refine ⟨fun i r hr => ⟨?_, fun _ _ => rfl⟩, fun i j r s hij hr hs g hg => ?_⟩
  · match i, hr with
    | 0, hr => simp at hr; subst hr; exact ha
    | 1, hr => simp at hr; subst hr; exact hb
    | 2, hr => simp at hr; subst hr; exact owi_nil _ _
    | 3, hr => simp at hr; subst hr; exact hx
    | 4, hr => simp at hr; subst hr; exact hy
  · match i, hr with
    | 0, hr =>
      simp at hr; subst hr
      have h1 := ka g hg
      match j, hs with
      | 0, _ => exact absurd rfl hij
      | 1, hs => simp at hs; subst hs; intro e; have := kb g e; omega
      | 2, hs => simp at hs; subst hs; intro e; cases e
      | 3, hs => simp at hs; subst hs; intro e; have := kx g e; omega
      | 4, hs => simp at hs; subst hs; intro e; have := ky g e; omega
    | 1, hr =>
      simp at hr; subst hr
      have h1 := kb g hg
      match j, hs with
      | 0, hs => simp at hs; subst hs; intro e; have := ka g e; omega
      | 1, _ => exact absurd rfl hij
      | 2, hs => simp at hs; subst hs; intro e; cases e
      | 3, hs => simp at hs; subst hs; intro e; have := kx g e; omega
      | 4, hs => simp at hs; subst hs; intro e; have := ky g e; omega
    | 2, hr => simp at hr; subst hr; cases hg
    | 3, hr =>
      simp at hr; subst hr
      have h1 := kx g hg
      match j, hs with
      | 0, hs => simp at hs; subst hs; intro e; have := ka g e; omega
      | 1, hs => simp at hs; subst hs; intro e; have := kb g e; omega
      | 2, hs => simp at hs; subst hs; intro e; cases e
      | 3, _ => exact absurd rfl hij
      | 4, hs => simp at hs; subst hs; exact hxy g hg
    | 4, hr =>
      simp at hr; subst hr
      have h1 := ky g hg
      match j, hs with
      | 0, hs => simp at hs; subst hs; intro e; have := ka g e; omega
      | 1, hs => simp at hs; subst hs; intro e; have := kb g e; omega
      | 2, hs => simp at hs; subst hs; intro e; cases e
      | 3, hs => simp at hs; subst hs; intro e; exact hxy g e hg
      | 4, _ => exact absurd rfl hij
theorem own_cellsB {w : World} {B g n cap : Nat} {xs : List Nat} (h : Own w B (.slice (some ⟨g, 0, none⟩) n cap) xs) (j x : Nat) (hx : xs[j]? = some x) : w.cell? ⟨g, j, none⟩ = some (.int .u8 (x : Nat)) ∧ w.frozen? ⟨g, j, none⟩ = false ∧ n ≤ cap ∧ cap ≤ 9223372036854775807 := by
  have hj := (List.getElem?_eq_some_iff.1 hx).1
  rcases h.2 with ⟨h, _⟩ | ⟨g', cap', cur, hv, hb, hh, hn, hm, hs, ht⟩
  · simp at h
  · simp only [Value.slice.injEq, Option.some.injEq, Addr.mk.injEq] at hv
    obtain ⟨⟨rfl, _⟩, rfl, rfl⟩ := hv
    refine ⟨?_, free_at hh j, hn, hm⟩
    have hu : (u8s xs)[j]? = some (.int .u8 (x : Nat)) := by simp [u8s, hx]
    rw [← ht, List.getElem?_take, if_pos (by omega), Array.getElem?_toList] at hu
    rw [cell_at hh]
    exact hu
theorem inrows_low {w : World} {B : Nat} {rows : List Rw} (h : Fam w B rows) : ∀ g, InRows rows g → B ≤ g := by
  rintro g ⟨k, r, hr, hg⟩
  exact (World.ownsRow.lt (h.1 k r hr).1 g hg).1
theorem heads5 (w : World) (a b c d e : Value) : Heads (w.alloc (.cells #[a, b, c, d, e] 22)) w.heap.size [a, b, c, d, e] :=
  ⟨_, heap_new rfl _, fun k v hk => by simpa using hk⟩
theorem MoSt.two {W4 wr : World} {B N N2 G : Nat} {va vc vn vd vb : Value} {al : Bool} {P : Prg} {zs : List Int} {cs : List (Int × ByteArray)} (h : MoSt W4 wr B N N2 G va vc vn vd vb al P zs cs) : OwI wr B va zs ∧ OwI wr B vd P.drive ∧ ∀ k, va.ownBlock = some k → vd.ownBlock ≠ some k :=
  ⟨h.fam.1 0 _ rfl, h.fam.1 2 _ rfl, fun k hk => h.fam.2 0 2 _ _ (by decide) rfl rfl k hk⟩
theorem small_minus {P : Prg} {k : Nat} (h : Little P k) (L : List Int) (bs : List Nat) (h1 : L.length ≤ k) (h2 : bs.length ≤ k) (al : Bool) : Little ⟨L, P.cur, P.nears, al, P.drive, bs⟩ k := ⟨h1, h.cur, h.nears, h.drive, h2, h.cs, h.ch⟩
end Go.Proofs.YtbimpoabiafdaaaDoor
