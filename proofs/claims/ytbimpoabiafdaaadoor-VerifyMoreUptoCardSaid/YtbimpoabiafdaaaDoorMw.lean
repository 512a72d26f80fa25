/- VerifyMore: what the law keeps in memory; texts that came in -/
import Derived.Test.YtbimpoabiafdaaaDoorMo
import Derived.Test.YtbimpoabiafdaaaDoorCpd
namespace Go.Proofs.YtbimpoabiafdaaaDoor
open Go.RowKit Vf
/-- a list of texts -/
def Texts (w : World) (v : Value) (l : List ByteArray) : Prop :=
  (v = .slice none 0 0 ∧ l = []) ∨ ∃ ad cap, v = .slice (some ad) l.length cap ∧ l.length ≤ cap ∧ cap ≤ 9223372036854775807 ∧ ∀ (k : Nat) (x : ByteArray), l[k]? = some x → w.cell? (ad.add k) = some (.string x)
theorem texts_keep {w w' : World} {v : Value} {l : List ByteArray} (h : Texts w v l) (hb : Below w.heap.size w w') : Texts w' v l := by
  rcases h with h | ⟨ad, cap, h1, h2, h3, h4⟩
  · exact .inl h
  · exact .inr ⟨ad, cap, h1, h2, h3, fun k x hk => lt_keep (h4 k x hk) hb⟩
theorem texts_form {w : World} {v : Value} {l : List ByteArray} (h : Texts w v l) : ∃ ao cap, v = .slice ao l.length cap := by
  rcases h with ⟨rfl, rfl⟩ | ⟨ad, cap, rfl, _⟩
  · exact ⟨_, _, rfl⟩
  · exact ⟨_, _, rfl⟩
theorem texts_get {w : World} {ao : Option Addr} {n cap : Nat} {l : List ByteArray} (h : Texts w (.slice ao n cap) l) {i : Nat} {x : ByteArray} (hx : l[i]? = some x) : ∃ ad, ao = some ad ∧ w.cell? (ad.add i) = some (.string x) := by
  rcases h with ⟨_, rfl⟩ | ⟨ad, cap', e, _, _, hc⟩
  · simp at hx
  · simp only [Value.slice.injEq] at e
    exact ⟨ad, e.1, hc i x hx⟩
theorem wpList_run {ops : Array Oper} {rest : List Oper} {o : Oper} {a : Act} {Q : Exit → Act → World → Prop} (t : TypeId) (w w' : World) (v u v' : Value) (hgd : o.guard = none) (s y : Operand)
    (ho : o.op = .call { callee := .builtin .append, args := #[s, y], argTypes := #[t, t] }) (hs : a.eval s = v) (hy : a.eval y = u) (hr : (Builtin.append_ #[t, t] o.type #[v, u]).run Tryd.prog w = .ok v' w') (h : wpList Tryd.prog ops Q rest (a.put o.dst v') w') :
    wpList Tryd.prog ops Q (o :: rest) a w := by
  refine wpList_plain hgd fun K hK => ?_
  unfold Oper.wp execOp
  simp only [ho, resolve, invoke, builtin, Sem.run_bind, Sem.run_pure, Result.andThen_ok, List.map_toArray, List.map_cons, List.map_nil, hs, hy, hr]
  exact hK _ _ h
abbrev RA (v : Value) (zs : List Int) : Option Ro := some ⟨3, 1, v, zs.length, intCells zs⟩
abbrev RC (v : Value) (cs : List (Int × ByteArray)) : Option Ro := some ⟨63, 2, v, cs.length, leafCells cs⟩
abbrev RB (v : Value) (bs : List Nat) : Option Ro := some ⟨5, 1, v, bs.length, u8s bs⟩
/-- the copy that grows -/
structure MoSt (W4 wr : World) (B N N2 G : Nat) (va vc vn vd vb : Value) (al : Bool) (P : Prg) (zs : List Int) (cs : List (Int × ByteArray)) : Prop where
  g : wr.heap[G]? = some (.cells #[va, vc, vn, .bool al, vd, vb] 27 (0, 0))
  fam : Fa wr B (R4 (RA va zs) (RC vc cs) (RA vd P.drive) (RB vb P.code))
  apA : ∀ k, va.ownBlock = some k → k < N ∨ N2 ≤ k
  apC : ∀ k, vc.ownBlock = some k → k < N ∨ N2 ≤ k
  hi : ∀ k, N ≤ k → k < N2 → wr.heap[k]? = W4.heap[k]?
  n2 : N2 ≤ G ∧ N2 ≤ wr.heap.size
  b : B ≤ N2
  below : Below B W4 wr
section
variable {W4 wr wr' : World} {B N N2 G : Nat} {va vc vn vd vb : Value} {al : Bool} {P : Prg} {zs : List Int} {cs : List (Int × ByteArray)}
theorem MoSt.keep (h : MoSt W4 wr B N N2 G va vc vn vd vb al P zs cs) (hb : Below wr.heap.size wr wr') : MoSt W4 wr' B N N2 G va vc vn vd vb al P zs cs :=
  ⟨keepTy_below hb 27 _ _ _ h.g, fa_below h.fam hb, h.apA, h.apC, fun k h1 h2 => (hb.block k (by have := h.n2.2; omega)).trans (h.hi k h1 h2), ⟨h.n2.1, Nat.le_trans h.n2.2 hb.size⟩, h.b, h.below.trans (hb.mono (by have := h.n2.2; have := h.b; omega))⟩
theorem MoSt.growA {w' : World} {v' : Value} {zs' : List Int} (h : MoSt W4 wr B N N2 G va vc vn vd vb al P zs cs) (hg : wr.grownBy w' va.ownBlock) (hat : v'.ownBlock = va.ownBlock ∨ v'.ownBlock = some wr.heap.size) (hr : w'.ownsRow B 3 1 v' zs'.length (intCells zs')) :
    MoSt W4 (w'.setCell ⟨G, 0, none⟩ v') B N N2 G v' vc vn vd vb al P zs' cs := by
  have hgG := keepTy_grown hg (notTy_row (h.fam.1 0 _ rfl) (t := 27) (by show (3 : Nat) ≠ 27; decide)) _ _ _ h.g
  have hfa := fa_grow h.fam (j := 0) rfl (r' := ⟨3, 1, v', zs'.length, intCells zs'⟩) hr hg hat
  rw [upd0] at hfa
  have hbB : Below B W4 w' := h.below.grown hg (by have := h.n2.2; have := h.b; omega) (fun k hk => (World.ownsRow.lt (h.fam.1 0 _ rfl) k hk).1)
  have hG : B ≤ G := by have := h.n2.1; have := h.b; omega
  refine ⟨by rw [heap_set hgG]; rfl, fa_keepTy hfa fun j r hj => keepTy_at hgG (fun e => ?_) _, fun k hk => ?_, h.apC, fun k h1 h2 => ?_, ⟨h.n2.1, ?_⟩, h.b, below_set hbB hG _⟩
  · match j, hj with
    | 0, hj => cases hj; cases e
    | 1, hj => cases hj; cases e
    | 2, hj => cases hj; cases e
    | 3, hj => cases hj; cases e
  · rcases hat with e | e
    · exact h.apA k (e ▸ hk)
    · rw [e] at hk
      obtain rfl := Option.some.inj hk
      exact .inr h.n2.2
  · have e1 : (w'.setCell ⟨G, 0, none⟩ v').heap[k]? = w'.heap[k]? := Below.heap_setCell w' _ _ k (by have := h.n2.1; show k ≠ G; omega)
    rw [e1]
    exact (hg.block k (by have := h.n2.2; omega) (fun e => by rcases h.apA k e.symm with e | e <;> omega)).trans (h.hi k h1 h2)
  · rw [World.size_setCell]; exact Nat.le_trans h.n2.2 hg.size
theorem MoSt.growC {w' : World} {v' : Value} {cs' : List (Int × ByteArray)} (h : MoSt W4 wr B N N2 G va vc vn vd vb al P zs cs) (hg : wr.grownBy w' vc.ownBlock) (hat : v'.ownBlock = vc.ownBlock ∨ v'.ownBlock = some wr.heap.size) (hr : w'.ownsRow B 63 2 v' cs'.length (leafCells cs')) :
    MoSt W4 (w'.setCell ⟨G, 1, none⟩ v') B N N2 G va v' vn vd vb al P zs cs' := by
  have hgG := keepTy_grown hg (notTy_row (h.fam.1 1 _ rfl) (t := 27) (by show (63 : Nat) ≠ 27; decide)) _ _ _ h.g
  have hfa := fa_grow h.fam (j := 1) rfl (r' := ⟨63, 2, v', cs'.length, leafCells cs'⟩) hr hg hat
  rw [upd1] at hfa
  have hbB : Below B W4 w' := h.below.grown hg (by have := h.n2.2; have := h.b; omega) (fun k hk => (World.ownsRow.lt (h.fam.1 1 _ rfl) k hk).1)
  have hG : B ≤ G := by have := h.n2.1; have := h.b; omega
  refine ⟨by rw [heap_set hgG]; rfl, fa_keepTy hfa fun j r hj => keepTy_at hgG (fun e => ?_) _, h.apA, fun k hk => ?_, fun k h1 h2 => ?_, ⟨h.n2.1, ?_⟩, h.b, below_set hbB hG _⟩
  · match j, hj with
    | 0, hj => cases hj; cases e
    | 1, hj => cases hj; cases e
    | 2, hj => cases hj; cases e
    | 3, hj => cases hj; cases e
  · rcases hat with e | e
    · exact h.apC k (e ▸ hk)
    · rw [e] at hk
      obtain rfl := Option.some.inj hk
      exact .inr h.n2.2
  · have e1 : (w'.setCell ⟨G, 1, none⟩ v').heap[k]? = w'.heap[k]? := Below.heap_setCell w' _ _ k (by have := h.n2.1; show k ≠ G; omega)
    rw [e1]
    exact (hg.block k (by have := h.n2.2; omega) (fun e => by rcases h.apC k e.symm with e | e <;> omega)).trans (h.hi k h1 h2)
  · rw [World.size_setCell]; exact Nat.le_trans h.n2.2 hg.size
end
theorem srcc_one {w : World} {Y : Nat} {z : Int} (h : w.heap[Y]? = some (.cells #[.int .i64 z] 3 (0, 0))) : SrcC w (.slice (some ⟨Y, 0, none⟩) 1 1) 1 1 (intCells [z]) :=
  ⟨rfl, .inr ⟨⟨Y, 0, none⟩, 1, rfl, fun j u hj => by
    have e : w.cell? ((⟨Y, 0, none⟩ : Addr).add j) = w.cell? ⟨Y, j, none⟩ := by rw [Addr.add_lit, Nat.zero_add]
    rw [e, cell_at h]
    simpa [intCells] using hj⟩⟩
theorem srcc_leaf {w : World} {Y : Nat} {z : Int} {t : ByteArray} (h : w.heap[Y]? = some (.cells #[.int .i64 z, .string t] 63 (0, 0))) : SrcC w (.slice (some ⟨Y, 0, none⟩) 1 1) 1 2 (leafCells [(z, t)]) :=
  ⟨rfl, .inr ⟨⟨Y, 0, none⟩, 1, rfl, fun j u hj => by
    have e : w.cell? ((⟨Y, 0, none⟩ : Addr).add j) = w.cell? ⟨Y, j, none⟩ := by rw [Addr.add_lit, Nat.zero_add]
    rw [e, cell_at h]
    simpa [leafCells] using hj⟩⟩
theorem wrap_more (x : Int) : wrap64 ((IntKind.u64.wrap x).tmod 100000) = (x % 18446744073709551616) % 100000 := by
  have h0 : 0 ≤ x % 18446744073709551616 := by omega
  rw [IntKind.wrap_u64, Int.tmod_eq_emod_of_nonneg h0]
  unfold wrap64
  omega
/-- an average is put behind the others -/
theorem grow_avgs {W4 wr : World} {B N N2 G : Nat} {vc vn vd vb : Value} {al : Bool} {P : Prg} {cs : List (Int × ByteArray)} {ia : Option Addr} {ja : Nat} {L : List Int} (z : Int) (h : MoSt W4 wr B N N2 G (.slice ia L.length ja) vc vn vd vb al P L cs) (hl : L.length ≤ 1099511627776) :
    ∃ i6 j6 w6, (Builtin.append_ #[22, 22] 22 #[.slice ia L.length ja, .slice (some ⟨wr.heap.size, 0, none⟩) 1 1]).run Tryd.prog (wr.alloc (.cells #[.int .i64 z] 3)) = .ok (.slice i6 (L.length + 1) j6) w6 ∧
      w6.heap[G]? = some (.cells #[.slice ia L.length ja, vc, vn, .bool al, vd, vb] 27 (0, 0)) ∧ MoSt W4 (w6.setCell ⟨G, 0, none⟩ (.slice i6 (L.length + 1) j6)) B N N2 G (.slice i6 (L.length + 1) j6) vc vn vd vb al P (L ++ [z]) cs := by
  obtain ⟨i0, hi, hz0, hz1, hz2⟩ := info_parts info3
  have h' := h.keep ((Below.refl wr.heap.size wr).alloc (Nat.le_refl _) (.cells #[.int .i64 z] 3))
  obtain ⟨v6, w6, k1, k2, k3, k4⟩ := run_row (wr.alloc (.cells #[.int .i64 z] 3)) B 22 22 3 i0 _ 1 8 Tryd.underlying22 hi hz0 hz1 hz2 rfl (by decide) (.slice ia L.length ja) (.slice (some ⟨wr.heap.size, 0, none⟩) 1 1) L.length 1 (intCells L) (intCells [z]) (h'.fam.1 0 _ rfl) (srcc_one (heap_new rfl _)) (intCells_one _) (by simp only [maxLen]; omega) (by omega) (by have := h'.n2.2; have := h'.b; omega)
  obtain ⟨i6, j6, rfl⟩ := row_shape k2
  refine ⟨i6, j6, w6, k1, keepTy_grown k3 (notTy_row (h'.fam.1 0 _ rfl) (t := 27) (by show (3 : Nat) ≠ 27; decide)) _ _ _ h'.g, h'.growA k3 k4 ?_⟩
  have e : intCells (L ++ [z]) = intCells L ++ intCells [z] := by simp [intCells]
  rw [e, List.length_append]
  exact k2
theorem grow_cur {W4 wr : World} {B N N2 G : Nat} {va vn vd vb : Value} {al : Bool} {P : Prg} {zs : List Int} {ia : Option Addr} {ja : Nat} {L : List (Int × ByteArray)} (z : Int) (t : ByteArray) (h : MoSt W4 wr B N N2 G va (.slice ia L.length ja) vn vd vb al P zs L) (hl : L.length ≤ 2199023255552) :
    ∃ i6 j6 w6, (Builtin.append_ #[23, 23] 23 #[.slice ia L.length ja, .slice (some ⟨wr.heap.size, 0, none⟩) 1 1]).run Tryd.prog (wr.alloc (.cells #[.int .i64 z, .string t] 63)) = .ok (.slice i6 (L.length + 1) j6) w6 ∧
      w6.heap[G]? = some (.cells #[va, .slice ia L.length ja, vn, .bool al, vd, vb] 27 (0, 0)) ∧ MoSt W4 (w6.setCell ⟨G, 1, none⟩ (.slice i6 (L.length + 1) j6)) B N N2 G va (.slice i6 (L.length + 1) j6) vn vd vb al P zs (L ++ [(z, t)]) := by
  obtain ⟨i0, hi, hz0, hz1, hz2⟩ := info_parts info63
  have h' := h.keep ((Below.refl wr.heap.size wr).alloc (Nat.le_refl _) (.cells #[.int .i64 z, .string t] 63))
  obtain ⟨v6, w6, k1, k2, k3, k4⟩ := run_row (wr.alloc (.cells #[.int .i64 z, .string t] 63)) B 23 23 63 i0 _ 2 24 Tryd.underlying23 hi hz0 hz1 hz2 rfl (by decide) (.slice ia L.length ja) (.slice (some ⟨wr.heap.size, 0, none⟩) 1 1) L.length 1 (leafCells L) (leafCells [(z, t)]) (h'.fam.1 1 _ rfl) (srcc_leaf (heap_new rfl _)) (leafCells_one _) (by simp only [maxLen]; omega) (by omega) (by have := h'.n2.2; have := h'.b; omega)
  obtain ⟨i6, j6, rfl⟩ := row_shape k2
  refine ⟨i6, j6, w6, k1, keepTy_grown k3 (notTy_row (h'.fam.1 1 _ rfl) (t := 27) (by show (63 : Nat) ≠ 27; decide)) _ _ _ h'.g, h'.growC k3 k4 ?_⟩
  rw [leafCells_app, List.length_append]
  exact k2
/-- a phrase is put behind the others -/
theorem grow_nears {W4 wr : World} {B N N2 G : Nat} {va vc vd vb : Value} {al : Bool} {P : Prg} {zs : List Int} {cs : List (Int × ByteArray)} {ia : Option Addr} {ja : Nat} {its : List NIt} (q : Nr) (hn : its.map (·.2.2) = P.nears) (hr : NrIts W4 N (.slice ia P.nears.length ja) its) (hN2 : N2 = W4.heap.size)
    (h : MoSt W4 wr B N N2 G va vc (.slice ia P.nears.length ja) vd vb al P zs cs) (hl : P.nears.length ≤ 1099511627776) (hN : N ≤ wr.heap.size) (X Y Z : Nat) (hX : wr.heap[X]? = some (.cells (intCells q.cs).toArray 3 (0, 0))) (hY : wr.heap[Y]? = some (.cells (intCells q.os).toArray 3 (0, 0)))
    (hZ : wr.heap[Z]? = some (.cells #[.slice (some ⟨X, 0, none⟩) q.cs.length q.cs.length, .slice (some ⟨Y, 0, none⟩) q.os.length q.os.length, .int .i64 q.slop] 65 (0, 0))) (hXN : N ≤ X) (hYN : N ≤ Y) (h1 : q.cs.length ≤ 100) (h2 : q.os.length ≤ 100) :
    ∃ i6 j6 w6, (Builtin.append_ #[24, 24] 24 #[.slice ia P.nears.length ja, .slice (some ⟨Z, 0, none⟩) 1 1]).run Tryd.prog wr = .ok (.slice i6 (P.nears.length + 1) j6) w6 ∧
      w6.heap[G]? = some (.cells #[va, vc, .slice ia P.nears.length ja, .bool al, vd, vb] 27 (0, 0)) ∧ (∃ its' : List NIt, its'.map (·.2.2) = P.nears ++ [q] ∧ NrIts w6 N (.slice i6 (P.nears.length + 1) j6) its') ∧ Fa w6 B (R4 (RA va zs) (RC vc cs) (RA vd P.drive) (RB vb P.code)) ∧ Below N wr w6 := by
  have hlen : its.length = P.nears.length := by rw [← hn, List.length_map]
  have hr' : NrIts wr N (.slice ia P.nears.length ja) its := nrits_high hr fun k h1 h2 => h.hi k h1 (by omega)
  have hx : wr.ownsRow N 3 1 (.slice (some ⟨X, 0, none⟩) q.cs.length q.cs.length) q.cs.length (intCells q.cs) := ⟨by simp [intCells], .inr ⟨X, q.cs.length, _, rfl, hXN, hX, Nat.le_refl _, by simp only [maxLen]; omega, by simp [intCells], by rw [Nat.mul_one, List.take_of_length_le (by simp [intCells])]⟩⟩
  have hy : wr.ownsRow N 3 1 (.slice (some ⟨Y, 0, none⟩) q.os.length q.os.length) q.os.length (intCells q.os) := ⟨by simp [intCells], .inr ⟨Y, q.os.length, _, rfl, hYN, hY, Nat.le_refl _, by simp only [maxLen]; omega, by simp [intCells], by rw [Nat.mul_one, List.take_of_length_le (by simp [intCells])]⟩⟩
  obtain ⟨v6, w6, k1, k2, k3⟩ := run_nr wr N Z _ its (.slice (some ⟨X, 0, none⟩) q.cs.length q.cs.length, .slice (some ⟨Y, 0, none⟩) q.os.length q.os.length, q) 24 hr' hx hy hZ (by omega) hN
  have hb6 : Below N wr w6 := (Below.refl N wr).grown k3 hN (fun k hk => (World.ownsRow.lt hr'.1 k hk).1)
  have hnt := fun (t : TypeId) (ht : (65 : Nat) ≠ t) => notTy_row hr'.1 (t := t) ht
  obtain ⟨i6, j6, e6⟩ := row_shape k2.1
  subst e6
  rw [List.length_append, List.length_singleton, hlen] at k1 k2
  refine ⟨i6, j6, w6, k1, keepTy_grown k3 (hnt 27 (by decide)) _ _ _ h.g, ⟨_, by rw [List.map_append, hn]; rfl, k2⟩, ?_, hb6⟩
  refine fa_kept h.fam k3 fun j r hj => ?_
  match j, hj with
  | 0, hj => cases hj; exact hnt 3 (by decide)
  | 1, hj => cases hj; exact hnt 63 (by decide)
  | 2, hj => cases hj; exact hnt 3 (by decide)
  | 3, hj => cases hj; exact hnt 5 (by decide)
/-- the grown program, as its block holds it -/
structure GrQ (wx : World) (G : Nat) (H : List Nat) (ia : Option Addr) (ja : Nat) (ic : Option Addr) (jc : Nat) (iN : Option Addr) (jN : Nat) (iD : Option Addr) (jD : Nat) (iu : Option Addr) (ju : Nat) (Q : Prg) : Prop where
  g : wx.heap[G]? = some (.cells #[.slice ia Q.avgs.length ja, .slice ic Q.cur.length jc, .slice iN Q.nears.length jN, .bool Q.all, .slice iD Q.drive.length jD, .slice iu Q.code.length ju] 27 (0, 0))
  at_ : ∀ w' : World, (∀ u : TypeId, 27 ≠ u → KeepTy wx w' u) → PrgAt w' (.slice ia Q.avgs.length ja) (.slice ic Q.cur.length jc) (.slice iN Q.nears.length jN) (.slice iD Q.drive.length jD) (.slice iu Q.code.length ju) Q
  ans1 : ans Q = some H
  ans2 : ans { Q with all := true, drive := [] } = some H
  small : Little Q 1099511627776
theorem ints_lit1 {w : World} {Y : Nat} {z : Int} (h : w.heap[Y]? = some (.cells #[.int .i64 z] 3 (0, 0))) : Ints w (.slice (some ⟨Y, 0, none⟩) 1 1) [z] :=
  .inr ⟨⟨Y, 0, none⟩, 1, rfl, Nat.le_refl _, by omega, fun k x hk => by
    have e : w.cell? ((⟨Y, 0, none⟩ : Addr).add k) = w.cell? ⟨Y, k, none⟩ := by rw [Addr.add_lit, Nat.zero_add]
    rw [e, cell_at h]
    match k, hk with
    | 0, hk => simp at hk; subst hk; rfl⟩
theorem ints_of_nil (w : World) : Ints w (.slice none 0 0) [] := .inl ⟨rfl, rfl⟩
theorem ans_none_all {P : Prg} {H : List Nat} (h : ans P = some H) : ans { P with all := true, drive := [] } = some H :=
  more_ans h rfl [] (by simp) (by simp) (by obtain ⟨_, _, ht, _⟩ := ans_is h; exact ht.2.1) [] (by simp) (by simp) [] (by simp) (by simp) (fun _ => rfl) (fun k hk => by simp at hk)
theorem MoSt.prgAt {W4 wr : World} {B N N2 G : Nat} {va vc vn vd vb : Value} {al : Bool} {P : Prg} {zs : List Int} {cs : List (Int × ByteArray)} {its : List NIt} (h : MoSt W4 wr B N N2 G va vc vn vd vb al P zs cs) (hn : its.map (·.2.2) = P.nears) (hr : NrIts W4 N vn its) (hN2 : W4.heap.size = N2) (hc : ∀ x ∈ P.code, x < 256) :
    ∀ w' : World, (∀ u : TypeId, 27 ≠ u → KeepTy wr w' u) → PrgAt w' va vc vn vd vb ⟨zs, cs, P.nears, al, P.drive, P.code⟩ := by
  intro w' hk
  have hr' : NrIts wr N vn its := nrits_high hr fun k h1 h2 => h.hi k h1 (by omega)
  exact ⟨own_ints (row_keepTy (h.fam.1 0 _ rfl) (hk 3 (by decide))), own_leafs (row_keepTy (h.fam.1 1 _ rfl) (hk 63 (by decide))), by rw [← hn]; exact nrits_nrs (nrits_keepTy hr' (hk 65 (by decide)) (hk 3 (by decide))), own_ints (row_keepTy (h.fam.1 2 _ rfl) (hk 3 (by decide))), src_own (row_keepTy (h.fam.1 3 _ rfl) (hk 5 (by decide))) hc⟩
theorem wrap_drv (x : Int) (n : Nat) (hn : 0 < n) (hl : n ≤ 2199023255552) (d : Int) (h : wrap64 ((IntKind.u64.wrap x).tmod (n : Int)) = d) : 0 ≤ d ∧ d < n := by
  have h0 : 0 ≤ x % 18446744073709551616 := by omega
  rw [IntKind.wrap_u64, Int.tmod_eq_emod_of_nonneg h0] at h
  have h1 := Int.emod_nonneg (x % 18446744073709551616) (show (n : Int) ≠ 0 by omega)
  have h2 := Int.emod_lt_of_pos (x % 18446744073709551616) (show (0 : Int) < (n : Int) by omega)
  generalize (x % 18446744073709551616) % (n : Int) = y at h h1 h2
  unfold wrap64 at h
  omega
theorem NewP.bound {w : World} {B N : Nat} {va vc vn vd vb : Value} {P : Prg} (h : NewP w B N va vc vn vd vb P) (hB : B ≤ w.heap.size) : ∃ N', N' ≤ w.heap.size ∧ NewP w B N' va vc vn vd vb P := by
  obtain ⟨its, e, h1, h2⟩ := h.nr
  have hm : min N w.heap.size ≤ N := Nat.min_le_left _ _
  refine ⟨min N w.heap.size, Nat.min_le_right _ _, h.fam, fun g hg => ?_, ⟨its, e, row_mono h1 hm, fun x hx => ⟨row_mono (h2 x hx).1 hm, row_mono (h2 x hx).2 hm⟩⟩, h.code, by have := h.bn; omega⟩
  have k1 := h.low g hg
  have k2 : g < w.heap.size := by
    rcases hg with hg | hg | hg | hg
    · exact (World.ownsRow.lt (h.fam.1 0 _ rfl) g hg).2
    · exact (World.ownsRow.lt (h.fam.1 1 _ rfl) g hg).2
    · exact (World.ownsRow.lt (h.fam.1 2 _ rfl) g hg).2
    · exact (World.ownsRow.lt (h.fam.1 3 _ rfl) g hg).2
  omega
theorem little_mono {P : Prg} {a b : Nat} (h : Little P a) (hab : a ≤ b) : Little P b :=
  ⟨Nat.le_trans h.avgs hab, Nat.le_trans h.cur hab, Nat.le_trans h.nears hab, Nat.le_trans h.drive hab, Nat.le_trans h.code hab, fun n hn => ⟨Nat.le_trans (h.cs n hn).1 hab, Nat.le_trans (h.cs n hn).2 hab⟩, fun x hx => Nat.le_trans (h.ch x hx) hab⟩
theorem small_more {P : Prg} {H : List Nat} (hL : Little P 549755813000) (h : ans P = some H) (zs : List Int) (ts : List ByteArray) (hlt : ts.length ≤ 549755813000) (ns : List Nr) (hns : ns.length ≤ 1) (hn2 : ∀ n ∈ ns, n.cs.length ≤ 2 ∧ n.os.length ≤ 2) (al : Bool) (dr : List Int) (hdr : dr.length ≤ 549755813000) :
    Little ⟨moreA P.avgs zs, moreC (moreA P.avgs zs).length P.cur ts, P.nears ++ ns, al, dr, P.code⟩ 1099511627776 := by
  obtain ⟨_, _, ht, _⟩ := ans_is h
  obtain ⟨az, e1, e2, e3⟩ := moreA_ok zs P.avgs ht.2.1
  have hp : 0 < (moreA P.avgs zs).length := by rw [e1, List.length_append]; have := ht.1; omega
  obtain ⟨cs, k1, k2, k3⟩ := moreC_ok _ hp ts P.cur
  have l2 := hL.cur
  have l3 := hL.nears
  have l5 := hL.code
  refine ⟨by show (moreA P.avgs zs).length ≤ _; omega, by show (moreC (moreA P.avgs zs).length P.cur ts).length ≤ _; rw [k1, List.length_append]; omega, by show (P.nears ++ ns).length ≤ _; rw [List.length_append]; omega, by show dr.length ≤ _; omega, by show P.code.length ≤ _; omega, fun n hn => ?_, fun x hx => ?_⟩
  · rcases List.mem_append.1 (show n ∈ P.nears ++ ns from hn) with hn | hn
    · have := hL.cs n hn; omega
    · have := hn2 n hn; omega
  · have hx' : x ∈ moreC (moreA P.avgs zs).length P.cur ts := hx
    rw [k1] at hx'
    rcases List.mem_append.1 hx' with hx | hx
    · have := hL.ch x hx; omega
    · have := (k2 x hx).2.2; omega
theorem prgat_nil {w : World} {va vc vn vd vb : Value} {Q : Prg} (h : PrgAt w va vc vn vd vb Q) : PrgAt w va vc vn (.slice none 0 0) vb { Q with all := true, drive := [] } := ⟨h.avgs, h.cur, h.nears, ints_of_nil w, h.code⟩
theorem little_nil {Q : Prg} {k : Nat} (h : Little Q k) : Little { Q with all := true, drive := [] } k := ⟨h.avgs, h.cur, h.nears, Nat.zero_le _, h.code, h.cs, h.ch⟩
end Go.Proofs.YtbimpoabiafdaaaDoor
