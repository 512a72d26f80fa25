/- a program that came in -/
import Derived.Test.YtbimpoabiafdaaaDoorFr
import Derived.Deep.SlicePairs
import Derived.Deep.Strs
namespace Go.Proofs.YtbimpoabiafdaaaDoor
open Go Go.ChangeShapes Go.WideShapes Go.ChangeAt Go.RowKit Vf Go.Proofs.YtbimpoabiafdaaaDoor.Rows
theorem bulk_pos {H : Type} (d : DataW H) : 1 ≤ uptoBulk d := by
  cases d with
  | lit l => cases l <;> simp [uptoBulk]
  | _ => simp [uptoBulk]
theorem bulk_len {H : Type} (l : List (DataW H)) : l.length ≤ uptoBulkAll l := by
  induction l with
  | nil => simp
  | cons d r ih =>
    have := bulk_pos d
    rw [uptoBulkAll, List.length_cons]
    omega
theorem bulk_get {H : Type} {l : List (DataW H)} {j : Nat} {d : DataW H} (h : l[j]? = some d) : uptoBulk d ≤ uptoBulkAll l := by
  induction l generalizing j with
  | nil => simp at h
  | cons x r ih =>
    rw [uptoBulkAll]
    cases j with
    | zero => simp at h; subst h; omega
    | succ j => have := ih (j := j) (by simpa using h); omega
theorem small_le {H : Type} {ds : List (DataW H)} (hk : uptoSmall H ds = true) : uptoBulkAll ds ≤ 1048576 := of_decide_eq_true hk
section
variable {H : Type} {enc : TypeId × Value → H} {P : Program} {W : World} {base : Nat} {spare : Nat → Bool} {held : Bool} {n : Nat} {v : Value} {d : DataW H} {p : List MemPlace}
/-- numbers that came in -/
theorem ints_of_trod {T E : TypeId} (hT : P.underlying T = some (.slice E)) (hE : P.underlying E = some (.int .i64)) (hC : P.cellsOf E = 1) (h : DataW.trod enc P W base spare held n T [v] = some (d, p)) :
    ∃ zs, Ints W v zs ∧ zs.length ≤ uptoBulk d := by
  rcases open_ints hT hE hC h with ⟨hcs, hx⟩ | ⟨a, len, cap, zs, hcs, hb, hl, hm, hz, hx, hc, hw⟩
  · simp only [List.cons.injEq, and_true] at hcs
    exact ⟨[], .inl ⟨hcs, rfl⟩, by simp⟩
  · simp only [List.cons.injEq, and_true] at hcs
    simp only [Prod.mk.injEq] at hx
    have hlz : len ≤ zs.length := by rw [hz]; split <;> omega
    have hlen : (zs.take len).length = len := by simp; omega
    refine ⟨zs.take len, .inr ⟨a, cap, by rw [hlen]; exact hcs, by rw [hlen]; exact hl, by unfold maxLen at hm; omega, fun k x hk => ?_⟩, ?_⟩
    · obtain ⟨hkl, hz2⟩ := List.getElem?_eq_some_iff.1 hk
      simp at hkl hz2
      rw [hc k (by omega)]
      have e : zs.getD k 0 = x := by rw [List.getD_eq_getElem?_getD, List.getElem?_eq_getElem (by omega)]; exact hz2
      rw [e]
    · rw [hx.1, uptoBulk, hlen]
      have := bulk_len (lits (H := H) .i64 (zs.take len))
      have e : (lits (H := H) .i64 (zs.take len)).length = len := by simp [lits]; omega
      omega
/-- bytes that came in -/
theorem bytes_of_trod {T E : TypeId} (hT : P.underlying T = some (.slice E)) (hE : P.underlying E = some (.int .u8)) (hC : P.cellsOf E = 1) (h : DataW.trod enc P W base spare held n T [v] = some (d, p)) :
    ∃ bs, Src W v bs ∧ bs.length ≤ uptoBulk d := by
  rcases open_ints hT hE hC h with ⟨hcs, hx⟩ | ⟨a, len, cap, zs, hcs, hb, hl, hm, hz, hx, hc, hw⟩
  · simp only [List.cons.injEq, and_true] at hcs
    exact ⟨[], ⟨by simp, .inl ⟨hcs, rfl⟩⟩, by simp⟩
  · simp only [List.cons.injEq, and_true] at hcs
    simp only [Prod.mk.injEq] at hx
    have hlz : len ≤ zs.length := by rw [hz]; split <;> omega
    have hlen : ((zs.take len).map Int.toNat).length = len := by simp; omega
    have hin : ∀ z ∈ zs, 0 ≤ z ∧ z ≤ 255 := fun z hz => by
      have := hw z hz
      simp [Lit.wf, IntKind.min, IntKind.max, IntKind.signed, IntKind.bits] at this
      omega
    refine ⟨(zs.take len).map Int.toNat, ⟨?_, .inr ⟨a, cap, by rw [hlen]; exact hcs, by rw [hlen]; exact hl, by unfold maxLen at hm; omega, ?_⟩⟩, ?_⟩
    · intro x hx
      obtain ⟨z, hz, rfl⟩ := List.mem_map.1 hx
      have := hin z (List.mem_of_mem_take hz)
      omega
    · intro k x hk
      simp only [List.getElem?_map, Option.map_eq_some_iff] at hk
      obtain ⟨z, hz, rfl⟩ := hk
      obtain ⟨hkl, hz2⟩ := List.getElem?_eq_some_iff.1 hz
      simp at hkl hz2
      have hmem : z ∈ zs := by rw [← hz2]; exact List.getElem_mem _
      have h0 := hin z hmem
      rw [hc k (by omega)]
      have e : zs.getD k 0 = z := by rw [List.getD_eq_getElem?_getD, List.getElem?_eq_getElem (by omega)]; exact hz2
      rw [e, Int.toNat_of_nonneg h0.1]
    · rw [hx.1, uptoBulk, hlen]
      have := bulk_len (lits (H := H) .u8 (zs.take len))
      have e : (lits (H := H) .u8 (zs.take len)).length = len := by simp [lits]; omega
      omega
theorem addr_next (a : Addr) (i k : Nat) (hk : 0 < k) : (⟨(a.add i).block, (a.add i).off + k, none⟩ : Addr) = a.add (i + k) := by
  unfold Addr.add
  split <;> simp_all <;> omega
/-- cursors that came in -/
theorem leafs_of_trod {T E I S : TypeId} {f0 f1 : Field} (hT : P.underlying T = some (.slice E)) (hE : P.underlying E = some (.struct #[f0, f1])) (cE : P.cellsOf E = 2) (o0 : f0.offset = 0) (o1 : f1.offset = 1) (t0 : f0.type = I) (t1 : f1.type = S)
    (hI : P.underlying I = some (.int .i64)) (cI : P.cellsOf I = 1) (hS : P.underlying S = some .string) (cS : P.cellsOf S = 1) (h : DataW.trod enc P W base spare held n T [v] = some (d, p)) :
    ∃ l, Leafs W v l ∧ l.length ≤ uptoBulk d ∧ ∀ x ∈ l, x.2.size ≤ uptoBulk d := by
  rcases Go.Deep.open_slice_pairs hT hE cE o0 o1 (by rw [t0]; exact cI) (by rw [t1]; exact cS) h with ⟨h1, h2⟩ | ⟨a, len, cap, m, n', V0, V1, D0, D1, P0, P1, hcs, hb, hl, hm, hmm, hx, hi⟩
  · simp only [List.cons.injEq, and_true] at h1
    exact ⟨[], .inl ⟨h1, rfl⟩, by simp, by simp⟩
  · have hlm : len ≤ m := by rw [hmm]; split <;> omega
    simp only [List.cons.injEq, and_true] at hcs
    simp only [Prod.mk.injEq] at hx
    rw [t0, t1] at hi
    have each : ∀ i, i < len → ∃ q : Int × ByteArray, W.cell? (a.add (i * 2)) = some (.int .i64 q.1) ∧ W.cell? (a.add (i * 2 + 1)) = some (.string q.2) ∧ q.2.size + 1 ≤ uptoBulk (D1 i) := by
      intro i hil
      obtain ⟨c0, c1, r0, r1⟩ := hi i (by omega)
      obtain ⟨z, hz, _, hw⟩ := DataW.trod_int hI r0
      obtain ⟨s, hs, hd, _⟩ := DataW.trod_string hS r1
      simp only [List.cons.injEq, and_true] at hz hs
      refine ⟨(z, s), by rw [c0, hz], by rw [c1, hs], ?_⟩
      simp only [Prod.mk.injEq] at hd
      rw [hd.1, uptoBulk]
      have : s.data.toList.length = s.size := by rw [Array.length_toList]; rfl
      show s.size + 1 ≤ s.data.toList.length + 1
      omega
    obtain ⟨q, hq⟩ := Go.Deep.choose_lt each
    have hbul : uptoBulk d = uptoBulkAll ((List.range len).map fun i => DataW.agg [D0 i, D1 i]) + uptoBulkAll ((List.range (m - len)).map fun j => DataW.agg [D0 (len + j), D1 (len + j)]) + 1 := by rw [hx.1, uptoBulk]
    refine ⟨(List.range len).map q, .inr ⟨a, cap, by rw [hcs]; simp, by simpa using hl, by unfold maxLen at hm; omega, ?_⟩, ?_, ?_⟩
    · intro k x hk
      simp only [List.getElem?_map, Option.map_eq_some_iff] at hk
      obtain ⟨j, hj, rfl⟩ := hk
      obtain ⟨hkl, hkj⟩ := List.getElem?_eq_some_iff.1 hj
      simp at hkl hkj
      subst hkj
      rw [addr_next _ _ _ (by omega)]
      exact ⟨(hq k hkl).1, (hq k hkl).2.1⟩
    · rw [hbul]
      have := bulk_len ((List.range len).map fun i => DataW.agg [D0 i, D1 i])
      simp at this ⊢
      omega
    · intro x hx
      obtain ⟨i, hi', rfl⟩ := List.mem_map.1 hx
      have hil := List.mem_range.1 hi'
      have h1 := (hq i hil).2.2
      have h2 := bulk_get (l := (List.range len).map fun i => DataW.agg [D0 i, D1 i]) (j := i) (d := .agg [D0 i, D1 i]) (by simp [hil])
      have e : uptoBulk (DataW.agg [D0 i, D1 i]) = uptoBulk (D0 i) + (uptoBulk (D1 i) + 0) + 1 := by rw [uptoBulk, uptoBulkAll, uptoBulkAll, uptoBulkAll]
      rw [e] at h2
      omega
/-- phrases that came in -/
theorem nears_of_trod {T E L I : TypeId} {f0 f1 f2 : Field} (hT : P.underlying T = some (.slice E)) (hE : P.underlying E = some (.struct #[f0, f1, f2])) (cE : P.cellsOf E = 3) (o0 : f0.offset = 0) (o1 : f1.offset = 1) (o2 : f2.offset = 2) (t0 : f0.type = L) (t1 : f1.type = L) (t2 : f2.type = I)
    (hL : P.underlying L = some (.slice I)) (cL : P.cellsOf L = 1) (hI : P.underlying I = some (.int .i64)) (cI : P.cellsOf I = 1) (h : DataW.trod enc P W base spare held n T [v] = some (d, p)) :
    ∃ l, Nrs W v l ∧ l.length ≤ uptoBulk d ∧ ∀ x ∈ l, x.cs.length ≤ uptoBulk d ∧ x.os.length ≤ uptoBulk d := by
  rcases Go.Deep.open_slice hT h with ⟨h1, h2⟩ | ⟨a, len, cap, m, n', D, Pl, hcs, hb, hl, hm, hmm, hx, hi⟩
  · simp only [List.cons.injEq, and_true] at h1
    exact ⟨[], .inl ⟨h1, rfl⟩, by simp, by simp⟩
  · have hlm : len ≤ m := by rw [hmm]; split <;> omega
    simp only [List.cons.injEq, and_true] at hcs
    simp only [Prod.mk.injEq] at hx
    have each : ∀ i, i < len → ∃ q : Nr, NrAt W (a.add (i * 3)) q ∧ q.cs.length ≤ uptoBulk (D i) ∧ q.os.length ≤ uptoBulk (D i) := by
      intro i hil
      obtain ⟨cs', k1, k2⟩ := hi i (by omega)
      rw [cE] at k1
      obtain ⟨_, hlen, hcell⟩ := World.cells?_some k1
      obtain ⟨y0, y1, y2, m2, hy, _, g0, g1, g2⟩ := Go.Deep.trod_struct3 hE k2
      match cs', hlen with
      | [v0, v1, v2], _ =>
        simp [o0, o1, o2, t0, t1, t2, cL, cI] at g0 g1 g2
        have e0 := hcell 0 (by omega)
        have e1 := hcell 1 (by omega)
        have e2 := hcell 2 (by omega)
        rw [Go.Deep.add_add] at e0 e1 e2
        obtain ⟨cs, i0, b0⟩ := ints_of_trod (d := y0.1) (p := y0.2) hL hI cI g0
        obtain ⟨os, i1, b1⟩ := ints_of_trod (d := y1.1) (p := y1.2) hL hI cI g1
        obtain ⟨z, hz, _, _⟩ := DataW.trod_int hI g2
        simp only [List.cons.injEq, and_true] at hz
        simp only [Prod.mk.injEq] at hy
        subst hz
        refine ⟨⟨cs, os, z⟩, ⟨v0, v1, by simpa using e0, ?_, ?_, i0, i1⟩, ?_, ?_⟩
        · rw [addr_next _ _ _ (by omega)]; simpa using e1
        · rw [addr_next _ _ _ (by omega)]; simpa using e2
        · rw [hy.1]; simp only [uptoBulk, uptoBulkAll]; omega
        · rw [hy.1]; simp only [uptoBulk, uptoBulkAll]; omega
    have each' : ∀ i, i < len → ∃ q : List Int × List Int × Int, NrAt W (a.add (i * 3)) ⟨q.1, q.2.1, q.2.2⟩ ∧ q.1.length ≤ uptoBulk (D i) ∧ q.2.1.length ≤ uptoBulk (D i) := fun i hi' => by
      obtain ⟨q, h1, h2, h3⟩ := each i hi'
      exact ⟨(q.cs, q.os, q.slop), h1, h2, h3⟩
    obtain ⟨q, hq⟩ := Go.Deep.choose_lt each'
    have hbul : uptoBulk d = uptoBulkAll ((List.range len).map D) + uptoBulkAll ((List.range (m - len)).map fun j => D (len + j)) + 1 := by rw [hx.1, uptoBulk]
    refine ⟨(List.range len).map fun i => ⟨(q i).1, (q i).2.1, (q i).2.2⟩, .inr ⟨a, cap, by rw [hcs]; simp, by simpa using hl, by unfold maxLen at hm; omega, ?_⟩, ?_, ?_⟩
    · intro k x hk
      simp only [List.getElem?_map, Option.map_eq_some_iff] at hk
      obtain ⟨j, hj, rfl⟩ := hk
      obtain ⟨hkl, hkj⟩ := List.getElem?_eq_some_iff.1 hj
      simp at hkl hkj
      subst hkj
      exact (hq k hkl).1
    · rw [hbul]
      have := bulk_len ((List.range len).map D)
      simp at this ⊢
      omega
    · intro x hx
      obtain ⟨i, hi', rfl⟩ := List.mem_map.1 hx
      have hil := List.mem_range.1 hi'
      have h1 := (hq i hil).2
      have h2 := bulk_get (l := (List.range len).map D) (j := i) (d := D i) (by simp [hil])
      simp only
      omega
end
theorem c27 : Tryd.prog.cellsOf 27 = 6 := by kernel_rfl
theorem c22 : Tryd.prog.cellsOf 22 = 1 := by kernel_rfl
theorem c23 : Tryd.prog.cellsOf 23 = 1 := by kernel_rfl
theorem c24 : Tryd.prog.cellsOf 24 = 1 := by kernel_rfl
theorem c4 : Tryd.prog.cellsOf 4 = 1 := by kernel_rfl
theorem c25 : Tryd.prog.cellsOf 25 = 1 := by kernel_rfl
theorem c5 : Tryd.prog.cellsOf 5 = 1 := by kernel_rfl
theorem c63 : Tryd.prog.cellsOf 63 = 2 := by kernel_rfl
theorem c65 : Tryd.prog.cellsOf 65 = 3 := by kernel_rfl
/-- a program that came in, by its types -/
theorem prog_of_trod {H : Type} {enc : TypeId × Value → H} {P : Program} {T L I C CE S N NE B BL U : TypeId} {W : World} {base b0 : Nat} {spare : Nat → Bool} {held : Bool} {r : Reach} {f0 f1 f2 f3 f4 f5 g0 g1 k0 k1 k2 : Field} {v : Value} {d : DataW H} {p : List MemPlace}
    (hT : P.underlying T = some (.struct #[f0, f1, f2, f3, f4, f5])) (cT : P.cellsOf T = 6) (hL : P.underlying L = some (.slice I)) (cL : P.cellsOf L = 1) (hI : P.underlying I = some (.int .i64)) (cI : P.cellsOf I = 1)
    (hC : P.underlying C = some (.slice CE)) (cC : P.cellsOf C = 1) (hCE : P.underlying CE = some (.struct #[g0, g1])) (cCE : P.cellsOf CE = 2) (hS : P.underlying S = some .string) (cS : P.cellsOf S = 1) (go0 : g0.offset = 0) (go1 : g1.offset = 1) (gt0 : g0.type = I) (gt1 : g1.type = S)
    (hN : P.underlying N = some (.slice NE)) (cN : P.cellsOf N = 1) (hNE : P.underlying NE = some (.struct #[k0, k1, k2])) (cNE : P.cellsOf NE = 3) (ko0 : k0.offset = 0) (ko1 : k1.offset = 1) (ko2 : k2.offset = 2) (kt0 : k0.type = L) (kt1 : k1.type = L) (kt2 : k2.type = I)
    (hBo : P.underlying BL = some .bool) (cBo : P.cellsOf BL = 1) (hB : P.underlying B = some (.slice U)) (cB : P.cellsOf B = 1) (hU : P.underlying U = some (.int .u8)) (cU : P.cellsOf U = 1)
    (o0 : f0.offset = 0) (o1 : f1.offset = 1) (o2 : f2.offset = 2) (o3 : f3.offset = 3) (o4 : f4.offset = 4) (o5 : f5.offset = 5) (t0 : f0.type = L) (t1 : f1.type = C) (t2 : f2.type = N) (t3 : f3.type = BL) (t4 : f4.type = L) (t5 : f5.type = B)
    (hv : Value.okWide P W r b0 T v) (h : DataW.Trod enc P W base spare held T v d p) :
    ∃ (va vc vn vd vb : Value) (Q : Prg), v = .agg #[va, vc, vn, .bool Q.all, vd, vb] ∧ PrgAt W va vc vn vd vb Q ∧ Little Q (uptoBulk d) := by
  obtain ⟨cs, rfl, hsz⟩ := okWide_struct hT hv
  rw [cT] at hsz
  obtain ⟨fuel, hf⟩ := h
  obtain ⟨xs, n, _, hx, _, hlen, hall⟩ := DataW.trod_struct hT hf
  obtain ⟨l⟩ := cs
  match l, hsz, xs, hlen with
  | [v0, v1, v2, v3, v4, v5], _, [y0, y1, y2, y3, y4, y5], _ =>
    have e0 := hall 0 f0 rfl
    have e1 := hall 1 f1 rfl
    have e2 := hall 2 f2 rfl
    have e3 := hall 3 f3 rfl
    have e4 := hall 4 f4 rfl
    have e5 := hall 5 f5 rfl
    simp only [t0, t1, t2, t3, t4, t5, o0, o1, o2, o3, o4, o5, cL, cC, cN, cBo, cB, Value.cells, List.drop, List.take, List.getElem?_cons_zero, List.getElem?_cons_succ] at e0 e1 e2 e3 e4 e5
    obtain ⟨q0, i0, b0⟩ := ints_of_trod (d := y0.1) (p := y0.2) hL hI cI e0
    obtain ⟨q1, i1, b1, b1s⟩ := leafs_of_trod (d := y1.1) (p := y1.2) hC hCE cCE go0 go1 gt0 gt1 hI cI hS cS e1
    obtain ⟨q2, i2, b2, b2s⟩ := nears_of_trod (d := y2.1) (p := y2.2) hN hNE cNE ko0 ko1 ko2 kt0 kt1 kt2 hL cL hI cI e2
    obtain ⟨bo, h3, _⟩ := DataW.trod_bool hBo e3
    obtain ⟨q4, i4, b4⟩ := ints_of_trod (d := y4.1) (p := y4.2) hL hI cI e4
    obtain ⟨q5, i5, b5⟩ := bytes_of_trod (d := y5.1) (p := y5.2) hB hU cU e5
    simp only [List.cons.injEq, and_true] at h3
    simp only [Prod.mk.injEq] at hx
    subst h3
    have hbul : uptoBulk d = uptoBulk y0.1 + (uptoBulk y1.1 + (uptoBulk y2.1 + (uptoBulk y3.1 + (uptoBulk y4.1 + (uptoBulk y5.1 + 0))))) + 1 := by
      rw [hx.1]
      simp only [List.map_cons, List.map_nil, uptoBulk, uptoBulkAll]
    refine ⟨v0, v1, v2, v4, v5, ⟨q0, q1, q2, bo, q4, q5⟩, rfl, ⟨i0, i1, i2, i4, i5⟩, ⟨by simp only; omega, by simp only; omega, by simp only; omega, by simp only; omega, by simp only; omega, fun x hx => ?_, fun x hx => ?_⟩⟩
    · have := b2s x hx; omega
    · have := b1s x hx; omega
set_option maxRecDepth 100000 in
theorem open_prog {H : Type} {enc : TypeId × Value → H} {W : World} {base : Nat} {v : Value} {d : DataW H} {p : List MemPlace}
    (hv : Value.okWide Tryd.prog W .any base 27 v) (h : DataW.Trod enc Tryd.prog W 0 (fun _ => true) true 27 v d p) :
    ∃ (va vc vn vd vb : Value) (Q : Prg), v = .agg #[va, vc, vn, .bool Q.all, vd, vb] ∧ PrgAt W va vc vn vd vb Q ∧ Little Q (uptoBulk d) :=
  prog_of_trod Tryd.underlying27 c27 Tryd.underlying22 c22 Tryd.underlying3 c3 Tryd.underlying23 c23 Tryd.underlying63 c63 Tryd.underlying9 c9 rfl rfl rfl rfl Tryd.underlying24 c24 Tryd.underlying65 c65 rfl rfl rfl rfl rfl rfl Tryd.underlying4 c4 Tryd.underlying25 c25 Tryd.underlying5 c5
    rfl rfl rfl rfl rfl rfl rfl rfl rfl rfl rfl rfl hv h
theorem Little.mono {P : Prg} {a b : Nat} (h : Little P a) (hab : a ≤ b) : Little P b :=
  ⟨Nat.le_trans h.avgs hab, Nat.le_trans h.cur hab, Nat.le_trans h.nears hab, Nat.le_trans h.drive hab, Nat.le_trans h.code hab, fun n hn => ⟨Nat.le_trans (h.cs n hn).1 hab, Nat.le_trans (h.cs n hn).2 hab⟩, fun x hx => Nat.le_trans (h.ch x hx) hab⟩
theorem small_prog {H : Type} {ds : List (DataW H)} (hk : uptoSmall H ds = true) {j : Nat} {d : DataW H} {Q : Prg} (hd : ds[j]? = some d) (h : Little Q (uptoBulk d)) : Little Q 1048576 := by
  have h1 := small_le hk
  have h2 := bulk_get hd
  exact h.mono (by omega)
end Go.Proofs.YtbimpoabiafdaaaDoor
