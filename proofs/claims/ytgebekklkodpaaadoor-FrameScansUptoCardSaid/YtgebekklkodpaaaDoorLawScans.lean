/- Proved: for every list of bytes and every stop (up to the Upto row's bulk), FrameScans returns true (every Scan: whole, stopped early, gone over again; and the bytes are those that there were at the call), and nothing that lay in memory ahead of the call has changed. Conditions: the package variables that the row lists (four errors, frame.zipTable) hold what their initialisers lay; the card ties that to the text. -/
import Derived.Test.YtgebekklkodpaaaDoorAk
import Derived.Sort.LoopGhostIn
import Derived.Test.YtgebekklkodpaaaDoorRq
import Derived.Sort.QuietIn
import Derived.Sort.BigQuietIn
import Derived.Test.YtgebekklkodpaaaDoorUpto
import Derived.Test.YtgebekklkodpaaaDoorTies
import Derived.Deep.DeepWitnessRowRef
namespace Go.Proofs.YtgebekklkodpaaaDoor.frameScans
open Go.ChangeShapes Go.WideShapes Go.ChangeAt Go.RowKit Go.Proofs.YtgebekklkodpaaaDoor
attribute [local go_sem] Oper.semAt_some

set_option maxRecDepth 100000 in
theorem append_srcI {F : Fence} {n₀ : Nat} {ops : Array Oper} {rest : List Oper} {o : Oper} {a : Act} {Q : Exit → Act → World → Prop} (w0 w : World) (B : Nat) (v xv : Value) (cur bs : List Nat) (hgd : o.guard = none) (s x : Operand)
    (ho : o.op = .call { callee := .builtin .append, args := #[s, x], argTypes := #[25, 25] }) (hs : a.eval s = v) (hx : a.eval x = xv)
    (hown : Own w B v cur) (hsrc : Src w xv bs) (hl : cur.length + bs.length ≤ 140737488355328) (hB : B ≤ w.heap.size) (hb : Below B w0 w)
    (h : ∀ v' w', Own w' B v' (cur ++ bs) → Below B w0 w' → wpListIn F n₀ Tryd.prog ops Q rest (a.put o.dst v') w') : wpListIn F n₀ Tryd.prog ops Q (o :: rest) a w := by
  obtain ⟨i0, hi, hz0, hz1, hz2⟩ := info_parts info5
  rcases hsrc with ⟨_, ⟨rfl, rfl⟩ | ⟨ad, cap, rfl, _, _, hc⟩⟩
  · have hrun := run_append_owned_none (P := Tryd.prog) (w := w) B 25 o.type 5 i0 1 Tryd.underlying25 hi v cur.length (u8s cur) hown
    refine wpListIn_plain hgd fun K hK' => ?_
    unfold Oper.wpIn
    refine ⟨?_, ?_⟩
    · simp [Oper.about, ho, resolve, Target.leads, Sem.run_pure]
    · rw [Oper.semAt_plain F _ _ (by rw [ho]; intro c hc'; cases hc')]
      simp [execOp, ho, resolve, invoke, builtin, hs, hx, hrun, Result.andThen]
      exact hK' _ _ (h v w (by rw [List.append_nil]; exact hown) hb)
  · refine wpListIn_append_own w hgd s x 25 ho B 5 i0 (.int .u8 0) 1 1 Tryd.underlying25 hi hz0 hz1 hz2 rfl (by decide) v cur.length (u8s cur) hs hown ad bs.length cap (u8s bs) hx (by simp [u8s_len]) (src_news hc) (u8s_one _) (by simp only [maxLen]; omega) (by omega) hB ?_
    intro v' w' hown' hg _
    refine h v' w' ?_ (hb.grown hg hB (fun k hk => (World.ownsRow.lt hown k hk).1))
    unfold Own
    rw [u8s_app, List.length_append]
    exact hown'
theorem ints_below {w w' : World} {v : Value} {ns : List Nat} (h : Ints w v ns) (hb : Below w.heap.size w w') : Ints w' v ns := by
  obtain ⟨ao, cap, e, hc⟩ := h
  refine ⟨ao, cap, e, fun k n hk => ?_⟩
  obtain ⟨ad, e2, h2⟩ := hc k n hk
  exact ⟨ad, e2, (hb.cell (World.block_lt_of_cell? w _ h2)).trans h2⟩
theorem blocks_cap {w : World} {ao : Option Addr} {n cap : Nat} {bl : List Bl} (h : Blocks w (.slice ao n cap) bl) : n ≤ cap ∧ cap ≤ 9223372036854775807 := by
  rcases h with ⟨h, _⟩ | ⟨ad, c, h, h1, h2, _⟩
  · simp only [Value.slice.injEq] at h
    omega
  · simp only [Value.slice.injEq] at h
    omega
theorem blocks_take {w : World} {ao : Option Addr} {n cap : Nat} {bl : List Bl} (h : Blocks w (.slice ao n cap) bl) (k : Nat) (hk : k ≤ bl.length) : Blocks w (.slice ao k cap) (bl.take k) := by
  rcases h with ⟨h, rfl⟩ | ⟨ad, c, h, h1, h2, h3⟩
  · simp only [Value.slice.injEq] at h
    obtain ⟨rfl, rfl, rfl⟩ := h
    simp at hk
    subst hk
    exact .inl ⟨rfl, rfl⟩
  · simp only [Value.slice.injEq] at h
    obtain ⟨rfl, rfl, rfl⟩ := h
    refine .inr ⟨ad, cap, by rw [List.length_take, Nat.min_eq_left hk], by rw [List.length_take, Nat.min_eq_left hk]; omega, h2, fun j x hj => h3 j x ?_⟩
    rw [List.getElem?_take] at hj
    split at hj
    · exact hj
    · cases hj
theorem inv_byte (x : Nat) : ∃ y : Nat, bits BinOp.xor IntKind.u8 (if IntKind.u8.signed = true then -1 else IntKind.u8.max) (x : Int) = (y : Int) := by
  refine ⟨_, (Int.toNat_of_nonneg ?_).symm⟩
  simp only [bits]
  first | (rw [IntKind.wrap_u8]; omega) | omega
/-- between two rounds of the inner loop -/
structure Sit (X W0 W1 : World) (T J k : Nat) (Ds : List Nat) (i : Nat) : Prop where
  below : Below W0.heap.size W0 X
  turn : Boxed X T 3 (.int .i64 (k : Nat))
  idx : Boxed X J 3 (.int .i64 (i : Nat))
  marks : Marks X W0.heap.size Ds
  size : W1.heap.size ≤ X.heap.size
theorem sit_kept {X C W0 W1 : World} {T J k i : Nat} {Ds : List Nat} {row : Option Nat} (h : Sit X W0 W1 T J k Ds i) (hg : X.grownBy C row) (hr : ∀ r, row = some r → W1.heap.size ≤ r ∧ ∃ o : Obj, X.heap[r]? = some o ∧ o.isCells = false)
    (hD : ∀ D ∈ Ds, D < J) (hJ : J < W1.heap.size) (hW : W0.heap.size ≤ W1.heap.size) : Sit C W0 W1 T J k Ds i := by
  have nt := notTy_obj (fun r e => (hr r e).2)
  exact ⟨h.below.grown hg h.below.size (fun r e => by have := (hr r e).1; omega), box_kept h.turn hg (nt 3), box_kept h.idx hg (nt 3), marks_grown h.marks hg (fun r e hm => by have := (hr r e).1; have := hD r hm; omega), Nat.le_trans h.size hg.size⟩
theorem sit_below {X C W0 W1 : World} {T J k i : Nat} {Ds : List Nat} (h : Sit X W0 W1 T J k Ds i) (hb : Below X.heap.size X C) : Sit C W0 W1 T J k Ds i :=
  ⟨h.below.trans (hb.mono h.below.size), box_kept h.turn (grown_of_below hb) (notTy_none _ _), box_kept h.idx (grown_of_below hb) (notTy_none _ _), marks_below h.marks hb, Nat.le_trans h.size hb.size⟩
theorem sit_step {X W0 W1 : World} {T J k i : Nat} {Ds : List Nat} (h : Sit X W0 W1 T J k Ds i) (q : Nat) (hT : T ≠ J) (hJ : W0.heap.size ≤ J) :
    Sit ((X.drewN q).setCell ⟨J, 0, none⟩ (.int .i64 ((i : Int) + 1))) W0 W1 T J k Ds (i + 1) ∧ KeepsOthers X ((X.drewN q).setCell ⟨J, 0, none⟩ (.int .i64 ((i : Int) + 1))) ∧ Below W0.heap.size X ((X.drewN q).setCell ⟨J, 0, none⟩ (.int .i64 ((i : Int) + 1))) := by
  have e : ((i + 1 : Nat) : Int) = (i : Int) + 1 := by omega
  have hk : KeepsOthers X (X.drewN q) := ⟨Nat.le_refl _, fun _ _ h _ => h⟩
  have hb : Below W0.heap.size X ((X.drewN q).setCell ⟨J, 0, none⟩ (.int .i64 ((i : Int) + 1))) := (below_drewN (Below.refl W0.heap.size X) q).setCell (p := ⟨J, 0, none⟩) hJ _
  have hi := Boxed.set (.int .i64 ((i : Int) + 1)) (show Boxed (X.drewN q) J 3 (.int .i64 (i : Nat)) from h.idx)
  refine ⟨⟨h.below.trans hb, (show Boxed (X.drewN q) T 3 (.int .i64 (k : Nat)) from h.turn).other hT _, ?_, marks_others h.marks (hk.trans (KeepsOthers.setCell _ _ _)), by have := h.size; have := hb.size; omega⟩, hk.trans (KeepsOthers.setCell _ _ _), hb⟩
  rw [e]
  exact hi
theorem scan_lens : ∀ (f a : Nat) (r : List Nat), (scan f a r).1.length ≤ f ∧ (scan f a r).2.length = (scan f a r).1.length
  | 0, _, _ => ⟨Nat.le_refl _, rfl⟩
  | f + 1, a, r => by
    rw [scan]
    split
    · exact ⟨by simp, rfl⟩
    · rename_i i j _
      have h := scan_lens f (a + (j + 4)) (r.drop (j + 4))
      simp only [List.length_cons]
      omega

set_option maxRecDepth 100000 in
set_option maxHeartbeats 8000000 in
theorem walk (w : World) (Z : Zip w) (E : Nat → Addr) (hE : Errs w E dErrs) (hg : 17 ≤ w.heap.size) (v : Value) (bs : List Nat) (hs : Src w v bs) (stop : Int) (hs1 : -9223372036854775808 ≤ stop) (hs2 : stop ≤ 9223372036854775807) (hl : bs.length ≤ 1048576) :
    Calls Tryd.prog 13 #[v, .int .i64 stop] w fun e w' => e = .returned (.bool true) ∧ Below w.heap.size w w' := by
  obtain ⟨ao, cap, rfl⟩ := src_form hs
  obtain ⟨n, hn⟩ : ∃ n, bs.length = n := ⟨_, rfl⟩
  have hsl := scan_lens (bs.length + 1) 0 bs
  obtain ⟨ps, hps⟩ : ∃ ps, (scan (bs.length + 1) 0 bs).1 = ps := ⟨_, rfl⟩
  obtain ⟨bls, hbls⟩ : ∃ bls, (scan (bs.length + 1) 0 bs).2 = bls := ⟨_, rfl⟩
  rw [hps, hbls] at hsl
  rw [hn] at hsl hl
  have HPS := hide hps
  have HBLS := hide hbls
  have HN := hide hn
  rw [hn] at hs ⊢
  have HS := hide hs
  have HZ := hide Z
  have HE := hide hE
  obtain ⟨L, hL⟩ : ∃ L, ps.length = L := ⟨_, rfl⟩
  rw [hL] at hsl
  have hL1 := hsl.1
  have HLP := hide hL
  have HLB := hide hsl.2
  clear hs Z hE hn hps hbls hsl hL
  refine (callsIn_wide (n := 9)).1 ?_
  refine callsIn_of_wp_marks Tryd.func13 rfl trivial ?_ rfl
  simp only [Tryd.ntmps13, List.size_toArray, List.length_cons, List.length_nil, Nat.reduceAdd, Nat.reduceSub, Array.replicate_succ, Array.replicate_zero, List.push_toArray, List.append_toArray, List.nil_append, List.cons_append]
  gi_wp2_with fail
  have b1 : Boxed ((w.alloc (.cells #[.int .i64 stop] 3)).alloc (.cells #[.bool false] 4)) w.heap.size 3 (.int .i64 stop) := (Boxed.new w 3 _).alloc _
  have b2 : Boxed ((w.alloc (.cells #[.int .i64 stop] 3)).alloc (.cells #[.bool false] 4)) (w.heap.size + 1) 4 (.bool false) := by
    have h := Boxed.new (w.alloc (.cells #[.int .i64 stop] 3)) 4 (.bool false)
    rwa [World.size_alloc] at h
  have hb : Below w.heap.size w ((w.alloc (.cells #[.int .i64 stop] 3)).alloc (.cells #[.bool false] 4)) := ((Below.refl w.heap.size w).alloc (Nat.le_refl _) _).alloc (by simp) _
  have hz : w.heap.size + 2 ≤ ((w.alloc (.cells #[.int .i64 stop] 3)).alloc (.cells #[.bool false] 4)).heap.size := by simp only [World.size_alloc]; omega
  generalize (w.alloc (.cells #[.int .i64 stop] 3)).alloc (.cells #[.bool false] 4) = w1 at *
  have q1 : w.heap.size < w.heap.size + 1 := by omega
  have q0 : w.heap.size + 1 < w1.heap.size := by omega
  clear hz
  generalize w.heap.size + 1 = R at *
  have B1 := hide b1
  have B2 := hide b2
  have HB1 := hide hb
  have z1 := hb.size
  clear b1 b2 hb
  refine ⟨trivial, (callsIn_wide.2 (lives_any w1 (zip_below HZ.out HB1.out (by omega)) (by omega))).mono ?_⟩
  rintro e w2 ⟨rfl, hb2⟩
  have HB2 := hide (HB1.out.trans (hb2.mono z1))
  have z2 := HB2.out.size
  have z12 := hb2.size
  have C1 := hide (box_kept B1.out (grown_of_below hb2) (notTy_none _ _))
  have C2 := hide (box_kept B2.out (grown_of_below hb2) (notTy_none _ _))
  clear hb2 B1 B2
  have HOA := hide (own_lit w2 w2.heap.size [] (Nat.le_refl _) (by simp) #[] rfl)
  have HBA := hide ((Below.refl w2.heap.size w2).alloc (Nat.le_refl _) (.cells #[] 5))
  have HSA := hide (src_keep (src_keep HS.out HB2.out) HBA.out)
  have HLA := hide (show ([] : List Nat).length + bs.length ≤ 140737488355328 by have := HN.out; simp; omega)
  gi_wp2_with (refine append_srcI w2 (w2.alloc (.cells #[] 5)) w2.heap.size _ _ [] bs rfl (.tmp 19) (.tmp 20) rfl rfl rfl HOA.out HSA.out HLA.out HBA.out.size HBA.out ?_)
  intro v3 w3 ho3 hb3
  try rw [List.nil_append] at ho3
  have HB3 := hide (HB2.out.trans (hb3.mono z2))
  have z3 := HB3.out.size
  have z23 := hb3.size
  obtain ⟨a3, k3, rfl⟩ := row_shape ho3
  rw [HN.out] at ho3 ⊢
  have HM3 := hide ho3
  have HGL := hide (fun g (hgg : (Value.slice a3 n k3).ownBlock = some g) => (World.ownsRow.lt ho3 g hgg).2)
  have D1 := hide (box_kept C1.out (grown_of_below hb3) (notTy_none _ _))
  have D2 := hide (box_kept C2.out (grown_of_below hb3) (notTy_none _ _))
  clear ho3 hb3 C1 C2 HOA HBA HSA HLA
  have HRS := hide (ref_scan_any w3 _ bs (src_keep HS.out HB3.out) (by have := HN.out; omega))
  gi_wp2_with fail
  refine ⟨trivial, (callsIn_wide.2 HRS.out).mono ?_⟩
  rintro e w4 ⟨⟨v4, v5, its, rfl, hi4, hbo4, hbl4, hba4⟩, hb4⟩
  rw [HPS.out] at hi4
  rw [HBLS.out] at hbl4
  have HB4 := hide (HB3.out.trans (hb4.mono z3))
  have z4 := HB4.out.size
  have z34 := hb4.size
  have HI4 := hide hi4
  have HO4 := hide hbo4
  have HBL := hide hbl4
  have HBASE := hide hba4
  have HX4 := hide (show Blocks w4 v5 bls by rw [← hbl4]; exact bown_blocks hbo4)
  obtain ⟨a4, k4, rfl, k41, k42⟩ := iown_shape hi4
  obtain ⟨a5, k5, rfl⟩ := blocks_form' HX4.out
  have HM4 := hide (row_keepTy HM3.out (keepTy_below hb4 5))
  have E1 := hide (box_kept D1.out (grown_of_below hb4) (notTy_none _ _))
  have E2 := hide (box_kept D2.out (grown_of_below hb4) (notTy_none _ _))
  clear hi4 hbo4 hbl4 hba4 hb4 HM3 D1 D2 HRS
  rw [HLP.out] at k41 HI4 ⊢
  rw [HLB.out] at HX4 HO4 ⊢
  gi_wp2_with fail
  have SC : ∀ (W : World) (M : Nat), Below w.heap.size w W → Src W (.slice a3 n k3) bs → M ≤ 1000000000 → Calls Tryd.prog 42 #[.slice a3 n k3, .int .i64 (M : Nat)] W fun e w' => ∃ v1 v2 its, e = .returned (.tuple #[v1, v2]) ∧ IOwn w' W.heap.size v1 (ps.take M) ∧ BFam w' W.heap.size v2 its ∧ blOf its = bls.take M ∧ Below W.heap.size W w' := by
    intro W M hW hsW hMW
    have hEW := HE.out.below hW (Nat.le_refl _) (dErrs_lt hg)
    have h := scanned_any W (zip_below HZ.out hW (by omega)) E (hEW.cell 0 (by decide)) (hEW.cell 1 (by decide)) (hEW.cell 2 (by decide)) (hEW.cell 6 (by decide)) (by have := hW.size; omega) _ bs hsW M hMW (by have := HN.out; omega)
    rw [HPS.out, HBLS.out] at h
    exact h
  have HSC := hide SC
  clear SC
  have p1 : Boxed ((w4.alloc (.cells #[.slice a4 L k4] 63)).alloc (.cells #[.slice a5 L k5] 38)) w4.heap.size 63 (.slice a4 L k4) := (Boxed.new w4 63 _).alloc _
  have p2 : Boxed ((w4.alloc (.cells #[.slice a4 L k4] 63)).alloc (.cells #[.slice a5 L k5] 38)) (w4.heap.size + 1) 38 (.slice a5 L k5) := by
    have h := Boxed.new (w4.alloc (.cells #[.slice a4 L k4] 63)) 38 (.slice a5 L k5)
    rwa [World.size_alloc] at h
  have hb5 : Below w4.heap.size w4 ((w4.alloc (.cells #[.slice a4 L k4] 63)).alloc (.cells #[.slice a5 L k5] 38)) := ((Below.refl w4.heap.size w4).alloc (Nat.le_refl _) _).alloc (by simp) _
  have hz5 : w4.heap.size + 2 ≤ ((w4.alloc (.cells #[.slice a4 L k4] 63)).alloc (.cells #[.slice a5 L k5] 38)).heap.size := by simp only [World.size_alloc]; omega
  generalize (w4.alloc (.cells #[.slice a4 L k4] 63)).alloc (.cells #[.slice a5 L k5] 38) = w5 at *
  have q2 : w4.heap.size < w4.heap.size + 1 := by omega
  have q3 : w4.heap.size + 1 < w5.heap.size := by omega
  have q4 : R < w4.heap.size := by omega
  have HB5 := hide (HB4.out.trans (hb5.mono z4))
  have z5 := HB5.out.size
  have F1 := hide (box_kept E1.out (grown_of_below hb5) (notTy_none _ _))
  have F2 := hide (box_kept E2.out (grown_of_below hb5) (notTy_none _ _))
  have HM5 := hide (row_keepTy HM4.out (keepTy_below hb5 5))
  have HI5 := hide (row_keepTy HI4.out (keepTy_below hb5 3))
  have HX5 := hide (blocks_keep HX4.out hb5)
  have HO5 := hide (bown_keep HO4.out hb5)
  have G1 := hide p1
  have G2 := hide p2
  clear p1 p2 hb5 hz5 E1 E2 HM4 HI4 HX4 HO4
  generalize w4.heap.size + 1 = Pb at *
  generalize w4.heap.size = Pp at *
  have h256 : ∀ x ∈ bs, x < 256 := HS.out.1
  have H256 := hide h256
  have hs1' := HSC.out w5 (n + 1) HB5.out (by have h := own_src HM5.out h256; exact h) (by omega)
  rw [show ((n + 1 : Nat) : Int) = (n : Int) + 1 by omega, List.take_of_length_le (by have := HLP.out; omega), List.take_of_length_le (by have := HLB.out; omega)] at hs1'
  have HS1 := hide hs1'
  clear hs1' h256
  refine ⟨trivial, (callsIn_wide.2 HS1.out).mono ?_⟩
  rintro e w6 ⟨v6, v7, its6, rfl, hi6, hf6, hbl6, hb6⟩
  have HB6 := hide (HB5.out.trans (hb6.mono z5))
  have z6 := HB6.out.size
  have z56 := hb6.size
  have HGI := hide (iown_ints hi6)
  have HGX := hide (show Blocks w6 v7 bls by rw [← hbl6]; exact bown_blocks (bfam_bown hf6))
  have F16 := hide (box_kept F1.out (grown_of_below hb6) (notTy_none _ _))
  have F26 := hide (box_kept F2.out (grown_of_below hb6) (notTy_none _ _))
  have G16 := hide (box_kept G1.out (grown_of_below hb6) (notTy_none _ _))
  have G26 := hide (box_kept G2.out (grown_of_below hb6) (notTy_none _ _))
  have HM6 := hide (row_keepTy HM5.out (keepTy_below hb6 5))
  have HI6 := hide (row_keepTy HI5.out (keepTy_below hb6 3))
  have HX6 := hide (blocks_keep HX5.out hb6)
  have HO6 := hide (bown_keep HO5.out hb6)
  have c6 := G16.out.cell
  have d6 := G26.out.cell
  clear hi6 hf6 hbl6 hb6 F1 F2 G1 G2 HM5 HI5 HX5 HO5 HS1
  have HSI := hide (same_ints w6 _ _ ps HGI.out (iown_ints HI6.out) (by have := HLP.out; omega))
  gi_wp2_with fail
  refine ⟨trivial, (callsIn_wide.2 HSI.out).mono ?_⟩
  rintro e w' ⟨rfl, q, rfl⟩
  have d6' : (w6.drewN q).cell? ⟨Pb, 0, none⟩ = some (.slice a5 L k5) := d6
  have HSB := hide (same_blocks (w6.drewN q) _ _ bls (blocks_keep HGX.out (below_drewN (Below.refl w6.heap.size w6) q)) (blocks_keep HX6.out (below_drewN (Below.refl w6.heap.size w6) q)) (by have := HLB.out; omega))
  gi_wp2_with fail
  refine ⟨trivial, (callsIn_wide.2 HSB.out).mono ?_⟩
  rintro e w' ⟨rfl, q', rfl⟩
  clear c6 d6 d6' HSI HSB HGI HGX
  rw [World.drewN_drewN]
  have HB7 := hide (below_drewN HB6.out (q + q'))
  have F17 := hide (show Boxed (w6.drewN (q + q')) w.heap.size 3 (.int .i64 stop) from F16.out)
  have F27 := hide (show Boxed (w6.drewN (q + q')) R 4 (.bool false) from F26.out)
  have G17 := hide (show Boxed (w6.drewN (q + q')) Pp 63 (.slice a4 L k4) from G16.out)
  have G27 := hide (show Boxed (w6.drewN (q + q')) Pb 38 (.slice a5 L k5) from G26.out)
  have HM7 := hide (show Own (w6.drewN (q + q')) w2.heap.size (.slice a3 n k3) bs from HM6.out)
  have HI7 := hide (row_keepTy HI6.out (keepTy_below (below_drewN (Below.refl w6.heap.size w6) (q + q')) 3))
  have HX7 := hide (blocks_keep HX6.out (below_drewN (Below.refl w6.heap.size w6) (q + q')))
  have HO7 := hide (bown_keep HO6.out (below_drewN (Below.refl w6.heap.size w6) (q + q')))
  have z67 : w6.heap.size ≤ (w6.drewN (q + q')).heap.size := Nat.le_refl _
  clear F16 F26 G16 G26 HM6 HI6 HX6 HO6
  generalize w6.drewN (q + q') = w7 at *
  have z7 := HB7.out.size
  have c7 := F17.out.cell
  have d7 := G17.out.cell
  have f7 := G27.out.cell
  obtain ⟨M1, hM1⟩ : ∃ M1 : Nat, (if stop < 0 then 0 else stop) = (M1 : Int) := by
    by_cases h1 : stop < 0
    · exact ⟨0, by rw [if_pos h1]; rfl⟩
    · exact ⟨stop.toNat, by rw [if_neg h1]; omega⟩
  obtain ⟨K, hK, hKL⟩ : ∃ K : Nat, (if L < M1 then (L : Int) else (M1 : Int)) = (K : Int) ∧ K ≤ L := by
    by_cases h2 : L < M1
    · exact ⟨L, by rw [if_pos h2], Nat.le_refl _⟩
    · exact ⟨M1, by rw [if_neg h2], by omega⟩
  gi_wp2_with fail
  have HKK := hide hK
  have HM1' := hide hM1
  clear hK hM1
  have hs2' := HSC.out w7 K HB7.out (by have h := own_src HM7.out H256.out; exact h) (by omega)
  have HS2 := hide hs2'
  clear hs2'
  refine ⟨trivial, (callsIn_wide.2 HS2.out).mono ?_⟩
  rintro e w8 ⟨v8, v9, its8, rfl, hi8, hf8, hbl8, hb8⟩
  have HB8 := hide (HB7.out.trans (hb8.mono z7))
  have z8 := HB8.out.size
  have z78 := hb8.size
  have HGI := hide (iown_ints hi8)
  have HGX := hide (show Blocks w8 v9 (bls.take K) by rw [← hbl8]; exact bown_blocks (bfam_bown hf8))
  have F18 := hide (box_kept F17.out (grown_of_below hb8) (notTy_none _ _))
  have F28 := hide (box_kept F27.out (grown_of_below hb8) (notTy_none _ _))
  have G18 := hide (box_kept G17.out (grown_of_below hb8) (notTy_none _ _))
  have G28 := hide (box_kept G27.out (grown_of_below hb8) (notTy_none _ _))
  have HM8 := hide (row_keepTy HM7.out (keepTy_below hb8 5))
  have HI8 := hide (row_keepTy HI7.out (keepTy_below hb8 3))
  have HX8 := hide (blocks_keep HX7.out hb8)
  have HO8 := hide (bown_keep HO7.out hb8)
  have c8 := G18.out.cell
  have d8 := G28.out.cell
  clear hi8 hf8 hbl8 hb8 F17 F27 G17 G27 HM7 HI7 HX7 HO7 HS2 c7 d7 f7
  have hk5 := blocks_cap HX8.out
  have y1 : (K : Int) ≤ (L : Int) := by omega
  have y2 : (K : Int) ≤ (k4 : Int) := by omega
  have y3 : (K : Int) ≤ (k5 : Int) := by omega
  have y4 : K ≤ k4 := by omega
  have y5 : K ≤ k5 := by omega
  have HSI := hide (same_ints w8 _ _ (ps.take K) HGI.out (ints_take (iown_ints HI8.out) K (by have := HLP.out; omega) k4) (by rw [List.length_take]; omega))
  have HTB := hide (blocks_take HX8.out K (by have := HLB.out; omega))
  gi_wp2_with fail
  refine ⟨trivial, (callsIn_wide.2 HSI.out).mono ?_⟩
  rintro e w' ⟨rfl, q8, rfl⟩
  have d8' : (w8.drewN q8).cell? ⟨Pb, 0, none⟩ = some (.slice a5 L k5) := d8
  have HSB := hide (same_blocks (w8.drewN q8) _ _ (bls.take K) (blocks_keep HGX.out (below_drewN (Below.refl w8.heap.size w8) q8)) (blocks_keep HTB.out (below_drewN (Below.refl w8.heap.size w8) q8)) (by rw [List.length_take]; omega))
  gi_wp2_with fail
  refine ⟨trivial, (callsIn_wide.2 HSB.out).mono ?_⟩
  rintro e w' ⟨rfl, q9, rfl⟩
  clear c8 d8 d8' HSI HSB HGI HGX HTB
  rw [World.drewN_drewN]
  have HB9 := hide (below_drewN HB8.out (q8 + q9))
  have F19 := hide (show Boxed (w8.drewN (q8 + q9)) w.heap.size 3 (.int .i64 stop) from F18.out)
  have F29 := hide (show Boxed (w8.drewN (q8 + q9)) R 4 (.bool false) from F28.out)
  have G19 := hide (show Boxed (w8.drewN (q8 + q9)) Pp 63 (.slice a4 L k4) from G18.out)
  have G29 := hide (show Boxed (w8.drewN (q8 + q9)) Pb 38 (.slice a5 L k5) from G28.out)
  have HM9 := hide (show Own (w8.drewN (q8 + q9)) w2.heap.size (.slice a3 n k3) bs from HM8.out)
  have HI9 := hide (row_keepTy HI8.out (keepTy_below (below_drewN (Below.refl w8.heap.size w8) (q8 + q9)) 3))
  have HX9 := hide (blocks_keep HX8.out (below_drewN (Below.refl w8.heap.size w8) (q8 + q9)))
  have HO9 := hide (bown_keep HO8.out (below_drewN (Below.refl w8.heap.size w8) (q8 + q9)))
  have z89 : w8.heap.size ≤ (w8.drewN (q8 + q9)).heap.size := Nat.le_refl _
  clear F18 F28 G18 G28 HM8 HI8 HX8 HO8
  generalize w8.drewN (q8 + q9) = w9 at *
  have z9 := HB9.out.size
  have HSN := hide (scan_any w9 _ bs (own_src HM9.out H256.out) (by have := HN.out; omega))
  gi_wp2_with fail
  refine ⟨trivial, (callsIn_wide.2 HSN.out).mono ?_⟩
  rintro e w10 ⟨Bx, gk, rfl, hBx, hgk, hk, hb10⟩
  have HB10 := hide (HB9.out.trans (hb10.mono z9))
  have z10 := HB10.out.size
  have z910 := hb10.size
  have F1a := hide (box_kept F19.out (grown_of_below hb10) (notTy_none _ _))
  have F2a := hide (box_kept F29.out (grown_of_below hb10) (notTy_none _ _))
  have G1a := hide (box_kept G19.out (grown_of_below hb10) (notTy_none _ _))
  have G2a := hide (box_kept G29.out (grown_of_below hb10) (notTy_none _ _))
  have HMa := hide (row_keepTy HM9.out (keepTy_below hb10 5))
  have HIa := hide (row_keepTy HI9.out (keepTy_below hb10 3))
  have HXa := hide (blocks_keep HX9.out hb10)
  have HOa := hide (bown_keep HO9.out hb10)
  have HK := hide hk
  have hBx2 := heap_lt hk.1
  have hgk2 := heap_lt hk.2
  clear hk hb10 F19 F29 G19 G29 HM9 HI9 HX9 HO9 HSN
  have hnf := func_nil (.pointer (some ⟨Bx, 0, none⟩))
  gi_wp2_with fail
  clear hnf
  gi_loopw [76] (fun c wr => ∃ i : Nat, i ≤ n ∧ c = .int .i64 i ∧ (∃ xs, xs.length = n ∧ Own wr w2.heap.size (.slice a3 n k3) xs) ∧ Foot w10 wr (fun g => (Value.slice a3 n k3).ownBlock = some g)) (fun c _ => n - (intOf c).toNat)
  case atStart => exact ⟨0, by omega, rfl, ⟨bs, HN.out, HMa.out⟩, Foot.refl _ _⟩
  case round =>
    obtain ⟨i, hi, rfl, ⟨xs, hxl, hox⟩, hft⟩ := hrel
    have HOX := hide hox
    have HXL := hide hxl
    have HFT := hide hft
    clear hox hxl hft
    by_cases hlt : i < n
    · have hi1 : (i : Int) < (n : Int) := by omega
      obtain ⟨g3, c3, hform⟩ := own_form HOX.out (by rw [HXL.out]; omega)
      rw [HXL.out] at hform
      simp only [Value.slice.injEq, true_and] at hform
      obtain ⟨rfl, rfl⟩ := hform
      obtain ⟨x, hx⟩ : ∃ x, xs[i]? = some x := ⟨_, List.getElem?_eq_getElem (by rw [HXL.out]; exact hlt)⟩
      obtain ⟨hc1, hf1⟩ := own_cells HOX.out i x hx
      obtain ⟨y, hy⟩ := inv_byte x
      have HFTs := hide (fun v => HFT.out.setCell ⟨g3, i, none⟩ v (.inl rfl))
      have HOP := hide (own_put HOX.out i y)
      clear hx
      gi_wp2_with fail
      exact ⟨⟨i + 1, by omega, by simp, ⟨xs.set i y, by rw [List.length_set]; exact HXL.out, HOP.out⟩, HFTs.out _⟩, by simp [intOf]; omega⟩
    · have hin : n = i := by omega
      subst hin
      have hft := HFT.out
      have HBr := hide (HB10.out.trans (hft.below (B := w.heap.size) (fun g hgg => by have := (World.ownsRow.lt HOX.out g hgg).1; omega) z10))
      have zr := HBr.out.size
      have z10r := hft.size
      have keep : ∀ (k : Nat) (cs : Array Value) (t : TypeId) (fr : Nat × Nat), w10.heap[k]? = some (.cells cs t fr) → (t ≠ 5 ∨ w3.heap.size ≤ k) → wr.heap[k]? = some (.cells cs t fr) := by
        intro k cs t fr hk ht
        refine (hft.block k (heap_lt hk) (fun hgg => ?_)).trans hk
        rcases ht with ht | ht
        · exact own_type HMa.out hk ht hgg
        · have := HGL.out k hgg
          omega
      have F1r := hide (show Boxed wr w.heap.size 3 (.int .i64 stop) from keep _ _ _ _ F1a.out (.inl (by decide)))
      have F2r := hide (show Boxed wr R 4 (.bool false) from keep _ _ _ _ F2a.out (.inl (by decide)))
      have G1r := hide (show Boxed wr Pp 63 (.slice a4 L k4) from keep _ _ _ _ G1a.out (.inl (by decide)))
      have G2r := hide (show Boxed wr Pb 38 (.slice a5 L k5) from keep _ _ _ _ G2a.out (.inl (by decide)))
      have HKr := hide (show Kept wr Bx gk bs from ⟨keep _ _ _ _ HK.out.1 (.inl (by decide)), keep _ _ _ _ HK.out.2 (.inr (by omega))⟩)
      have HIr := hide (iown_ints (row_keepTy HIa.out (fun k cs fr hk => keep k cs 3 fr hk (.inl (by decide)))))
      have hor : BOwn wr w3.heap.size (.slice a5 L k5) its := ⟨row_keepTy HOa.out.1 (fun k cs fr hk => keep k cs 47 fr hk (.inl (by decide))), fun x hx => ⟨(HOa.out.2 x hx).1, bod_at (HOa.out.2 x hx).2 (fun k cs fr ho hk => keep k cs 5 fr hk (.inr (HBASE.out x hx k ho)))⟩⟩
      have HXr := hide (show Blocks wr (.slice a5 L k5) bls by rw [← HBL.out]; exact bown_blocks hor)
      have hBr : Bx < wr.heap.size := by omega
      have hgr : gk < wr.heap.size := by omega
      have hlR : R < wr.heap.size := by omega
      have hlPp := HB10.out.size
      have hPp : Pp < wr.heap.size := G1r.out.lt
      have hPb : Pb < wr.heap.size := G2r.out.lt
      have hW0 : w.heap.size < wr.heap.size := F1r.out.lt
      clear hft keep hor hlPp HOX HFT HXL F1a F2a G1a G2a HK HIa HOa HXa HMa HBL HBASE HGL
      obtain ⟨W0, hW⟩ : ∃ W0, W0 = wr := ⟨_, rfl⟩
      subst hW
      gi_wp2_with fail
      refine wpIn_loop_ghost (fun m a W => ∃ (k T : Nat) (Ds : List Nat), m + k = 2 ∧ Below W0.heap.size W0 W ∧ Boxed W T 3 (.int .i64 (k : Nat)) ∧ W0.heap.size ≤ T ∧ Marks W W0.heap.size Ds ∧ ∃ x14 x15 x16 x88 x89 x90 x91 x92 x93 x94 x95 x96 x97 x98 x99 x100 x101 x102 x103 x104 x105 x106 x107 x108 x109 x110 x111 x112 x113 x114 x115 x116 x117 x118 x119 x120 x121 x122 x123 x124 x125 x126 x127 x128 x129 x130 x131 x132 x133 x134 x135 x136 x137 x138 x139 x140 x141 x142 x143 x144 x145 x146 x147 x148 x149 x150 x151 : Value, a = { tmps := #[Value.slice ao n cap, Value.int IntKind.i64 (stop : Int), undef, Value.pointer (some ⟨w.heap.size, 0, none⟩), Value.pointer (some ⟨R, 0, none⟩), Value.slice a3 n k3, Value.pointer (some ⟨Pp, 0, none⟩), Value.pointer (some ⟨Pb, 0, none⟩), v8, v9, Value.int IntKind.i64 (K : Int), Value.func (Fn.func 71) #[] #[Value.pointer (some ⟨Bx, 0, none⟩)], u12, Value.pointer (some ⟨T, 0, none⟩), x14, x15, x16, Value.bool true, Value.bool false, Value.slice (some ⟨w2.heap.size, 0, none⟩) 0 0, Value.slice ao n cap, Value.slice a3 n k3, Value.tuple #[Value.slice a4 L k4, Value.slice a5 L k5], Value.slice ao n cap, Value.tuple #[Value.slice a4 L k4, Value.slice a5 L k5], Value.slice a4 L k4, Value.slice a5 L k5, Value.tuple #[v6, v7], Value.slice a3 n k3, Value.slice ao n cap, Value.int IntKind.i64 (n : Int), Value.int IntKind.i64 ((n : Int) + 1), Value.tuple #[v6, v7], v6, v7, v6, Value.slice a4 L k4, Value.bool true, Value.bool false, Value.bool false, v7, Value.slice a5 L k5, Value.bool true, Value.bool false, Value.bool false, Value.int IntKind.i64 (stop : Int), Value.int IntKind.i64 (M1 : Int), Value.slice a4 L k4, Value.int IntKind.i64 (L : Int), Value.int IntKind.i64 (K : Int), Value.tuple #[v8, v9], Value.slice a3 n k3, Value.int IntKind.i64 (K : Int), Value.tuple #[v8, v9], v8, v9, v8, Value.slice a4 L k4, Value.int IntKind.i64 (K : Int), Value.slice a4 K k4, Value.bool true, Value.bool false, Value.bool false, v9, Value.slice a5 L k5, Value.int IntKind.i64 (K : Int), Value.slice a5 K k5, Value.bool true, Value.bool false, Value.bool false, Value.slice a3 n k3, Value.func (Fn.func 71) #[] #[Value.pointer (some ⟨Bx, 0, none⟩)], Value.func (Fn.func 71) #[] #[Value.pointer (some ⟨Bx, 0, none⟩)], Value.bool false, Value.slice a3 n k3, Value.int IntKind.i64 (n : Int), Value.int IntKind.i64 (n : Int), Value.bool false, u78, u79, u80, u81, u82, u83, u84, u85, u86, u87, x88, x89, x90, x91, x92, x93, x94, x95, x96, x97, x98, x99, x100, x101, x102, x103, x104, x105, x106, x107, x108, x109, x110, x111, x112, x113, x114, x115, x116, x117, x118, x119, x120, x121, x122, x123, x124, x125, x126, x127, x128, x129, x130, x131, x132, x133, x134, x135, x136, x137, x138, x139, x140, x141, x142, x143, x144, x145, x146, x147, x148, x149, x150, x151], defers := Ds.map mk_ }) 2 ?start ?round
      case start =>
        refine ⟨0, W0.heap.size, [], rfl, (Below.refl _ _).alloc (Nat.le_refl _) _, Boxed.new W0 3 _, Nat.le_refl _, marks_nil _ _, ?_⟩
        repeat apply Exists.intro
        rfl
      case round =>
        rintro m a W ⟨k, T, Ds, hmk, hb, hT, hTB, hM, x14, x15, x16, x88, x89, x90, x91, x92, x93, x94, x95, x96, x97, x98, x99, x100, x101, x102, x103, x104, x105, x106, x107, x108, x109, x110, x111, x112, x113, x114, x115, x116, x117, x118, x119, x120, x121, x122, x123, x124, x125, x126, x127, x128, x129, x130, x131, x132, x133, x134, x135, x136, x137, x138, x139, x140, x141, x142, x143, x144, x145, x146, x147, x148, x149, x150, x151, rfl⟩
        have HB := hide hb
        have HT := hide hT
        have HM := hide hM
        have zW := hb.size
        have cT := hT.cell
        have hTl := hT.lt
        clear hb hT hM
        by_cases hk2 : k < 2
        · have hk2' : (k : Int) < 2 := by omega
          have hT' := HT.out
          have bJ : Boxed (W.alloc (.cells #[.int .i64 0] 3)) W.heap.size 3 (.int .i64 0) := Boxed.new W 3 _
          have hq : Below W.heap.size W (W.alloc (.cells #[.int .i64 0] 3)) := (Below.refl W.heap.size W).alloc (Nat.le_refl _) _
          have hzJ : W.heap.size < (W.alloc (.cells #[.int .i64 0] 3)).heap.size := by rw [World.size_alloc]; omega
          have HBJ := hide bJ
          have HTJ := hide (hT'.alloc (.cells #[.int .i64 0] 3))
          have HBW := hide (HB.out.trans (hq.mono zW))
          have HMW := hide (marks_below HM.out hq)
          have HKW := hide (kept_keepTy HKr.out (keepTy_below HBW.out 25) (keepTy_below HBW.out 5))
          have HTE := hide (scan_tells_at (ScanS Bx gk) 8 Bx gk bs (W.alloc (.cells #[.int .i64 0] 3)) (zip_below HZ.out (HBr.out.trans (HBW.out.mono zr)) (by omega)) E (err_below ((HE.out.below HBr.out (Nat.le_refl _) (dErrs_lt hg)).cell 0 (by decide)) HBW.out (by omega)) (err_below ((HE.out.below HBr.out (Nat.le_refl _) (dErrs_lt hg)).cell 1 (by decide)) HBW.out (by omega)) (err_below ((HE.out.below HBr.out (Nat.le_refl _) (dErrs_lt hg)).cell 2 (by decide)) HBW.out (by omega)) (err_below ((HE.out.below HBr.out (Nat.le_refl _) (dErrs_lt hg)).cell 6 (by decide)) HBW.out (by omega)) (fun k hk => .inl hk) (by omega) (.inr (.inl rfl)) (.inr (.inr rfl)) HKW.out H256.out (by have := HN.out; omega))
          have HMS : Hid (∀ D ∈ Ds, D < W.heap.size) := hide (fun D hD => marks_lt HM.out hD)
          clear bJ hq
          gi_wp2_with fail
          generalize W.alloc (.cells #[.int .i64 0] 3) = W1 at *
          generalize W.heap.size = J at *
          have hJ0 : W0.heap.size ≤ J := by omega
          have hTJ : T ≠ J := by omega
          have hzW1 : J < W1.heap.size := hzJ
          have hW01 : W0.heap.size ≤ W1.heap.size := by omega
          obtain ⟨Ac, hAc⟩ : ∃ Ac : Nat → Value → Value → Act, Ac = fun bb at_ ag => { tmps := #[Value.slice ao n cap, Value.int IntKind.i64 (stop : Int), undef, Value.pointer (some ⟨w.heap.size, 0, none⟩), Value.pointer (some ⟨R, 0, none⟩), Value.slice a3 n k3, Value.pointer (some ⟨Pp, 0, none⟩), Value.pointer (some ⟨Pb, 0, none⟩), v8, v9, Value.int IntKind.i64 (K : Int), Value.func (Fn.func 71) #[] #[Value.pointer (some ⟨Bx, 0, none⟩)], u12, Value.pointer (some ⟨T, 0, none⟩), Value.pointer (some ⟨J, 0, none⟩), at_, Value.pointer (some ⟨bb, 0, none⟩), Value.bool true, Value.bool false, Value.slice (some ⟨w2.heap.size, 0, none⟩) 0 0, Value.slice ao n cap, Value.slice a3 n k3, Value.tuple #[Value.slice a4 L k4, Value.slice a5 L k5], Value.slice ao n cap, Value.tuple #[Value.slice a4 L k4, Value.slice a5 L k5], Value.slice a4 L k4, Value.slice a5 L k5, Value.tuple #[v6, v7], Value.slice a3 n k3, Value.slice ao n cap, Value.int IntKind.i64 (n : Int), Value.int IntKind.i64 ((n : Int) + 1), Value.tuple #[v6, v7], v6, v7, v6, Value.slice a4 L k4, Value.bool true, Value.bool false, Value.bool false, v7, Value.slice a5 L k5, Value.bool true, Value.bool false, Value.bool false, Value.int IntKind.i64 (stop : Int), Value.int IntKind.i64 (M1 : Int), Value.slice a4 L k4, Value.int IntKind.i64 (L : Int), Value.int IntKind.i64 (K : Int), Value.tuple #[v8, v9], Value.slice a3 n k3, Value.int IntKind.i64 (K : Int), Value.tuple #[v8, v9], v8, v9, v8, Value.slice a4 L k4, Value.int IntKind.i64 (K : Int), Value.slice a4 K k4, Value.bool true, Value.bool false, Value.bool false, v9, Value.slice a5 L k5, Value.int IntKind.i64 (K : Int), Value.slice a5 K k5, Value.bool true, Value.bool false, Value.bool false, Value.slice a3 n k3, Value.func (Fn.func 71) #[] #[Value.pointer (some ⟨Bx, 0, none⟩)], Value.func (Fn.func 71) #[] #[Value.pointer (some ⟨Bx, 0, none⟩)], Value.bool false, Value.slice a3 n k3, Value.int IntKind.i64 (n : Int), Value.int IntKind.i64 (n : Int), Value.bool false, u78, u79, u80, u81, u82, u83, u84, u85, u86, u87, Value.int IntKind.i64 (k : Int), Value.bool true, x90, x91, Value.func (Fn.func 71) #[] #[Value.pointer (some ⟨Bx, 0, none⟩)], at_, ag, x95, x96, x97, x98, x99, x100, x101, x102, x103, x104, x105, x106, x107, x108, x109, x110, x111, x112, x113, x114, x115, x116, x117, x118, x119, x120, x121, x122, x123, x124, x125, x126, x127, x128, x129, x130, x131, x132, x133, x134, x135, x136, x137, x138, x139, x140, x141, x142, x143, x144, x145, x146, x147, x148, x149, x150, x151], defers := [] } := ⟨_, rfl⟩
          refine range_told_at (α := Itm) (encs := itEnc) (Ok := itAt bs) (Sa := scanAll bs) (Sp := scanPart bs) (S := ScanS Bx gk) rfl (by omega) (gf := 71) (lb := #[.pointer (some ⟨Bx, 0, none⟩)]) rfl trivial (enters_of Tryd.func71 (by kernel_rfl) rfl)
            HTE.out (by rintro k (h | rfl | rfl) <;> omega) (fun _ => rfl)
            (fun pre X => Sit X W0 W1 T J k Ds pre.length ∧ (k = 1 ∨ (pre.length : Int) ≤ stop ∨ pre = []))
            (fun c pre X => c = .exit 4 ∧ Sit X W0 W1 T J k Ds pre.length ∧ k = 0 ∧ stop < (pre.length : Int))
            (fun pre x a' X => Sit X W0 W1 T J k Ds pre.length ∧ (k = 1 ∨ (pre.length : Int) ≤ stop ∨ pre = []) ∧ scanPart bs (pre ++ [x]) ∧ Bod X x.2.2.1 x.2.2.2 ∧ x.2.1 < 256 ∧ ∃ bb, a' = Ac bb (.int .i64 (x.1 : Nat)) (.agg #[.int .u8 (x.2.1 : Nat), x.2.2.1]) ∧ X.heap[bb]? = some (.cells #[.int .u8 (x.2.1 : Nat), x.2.2.1] 47 (0, 0)))
            ?hI ?hIx ?hT ⟨⟨HBW.out, HTJ.out, HBJ.out, HMW.out, Nat.le_refl _⟩, .inr (.inr rfl)⟩ ?assign ?body ?done ?stop
          case hI =>
            rintro pre A C row ⟨h, h1⟩ hgr hr
            exact ⟨sit_kept h hgr hr HMS.out hzW1 hW01, h1⟩
          case hIx =>
            rintro c pre A C row ⟨e0, h, h1, h2⟩ hgr hr
            exact ⟨e0, sit_kept h hgr hr HMS.out hzW1 hW01, h1, h2⟩
          case hT =>
            rintro a' ⟨pre, x⟩ A C row ⟨h, h1, h2, h3, h4, bb, e, hbb⟩ hgr hr
            have nt := notTy_obj (fun r e => (hr r e).2)
            exact ⟨sit_kept h hgr hr HMS.out hzW1 hW01, h1, h2, bod_at h3 (fun k cs fr _ hk => keepTy_grown hgr (nt 5) _ _ _ hk), h4, bb, e, keepTy_grown hgr (nt 47) _ _ _ hbb⟩
          case assign =>
            rintro l pre ⟨at_, t, v, body⟩ A C K' ⟨h, h1⟩ hb ⟨hpt, hok⟩ hzA hK'
            obtain ⟨htag, gx, m, hv, hm, hgx, hhx, h256x, hmx⟩ := hok
            simp only at hv hm htag hhx h256x
            subst hv
            have hbod : Bod C (.slice (some ⟨gx, 0, none⟩) m m) body := bod_own (B := 0) (by rw [hm]; exact own_block hhx (by omega) (by omega)) h256x
            have hw : Below C.heap.size C (C.alloc (.cells #[.int .u8 (t : Nat), .slice (some ⟨gx, 0, none⟩) m m] 47)) := (Below.refl C.heap.size C).alloc (Nat.le_refl _) _
            have hK2 := hide (hK' (Ac C.heap.size (.int .i64 (at_ : Nat)) (.agg #[.int .u8 (t : Nat), .slice (some ⟨gx, 0, none⟩) m m])) _ ((KeepsOthers.alloc _ _).from _) (same_below hw)
              ⟨sit_below (sit_below h hb) hw, h1, hpt, bod_keep hbod hw, htag, C.heap.size, rfl, heap_new rfl _⟩)
            clear hK' hbod hw hm hgx hhx h256x hmx hpt
            subst hAc
            dsimp only [itEnc]
            gi_wp2_with fail
            exact hK2.out
          case body =>
            rintro l pre ⟨at_, t, v, body⟩ a' X ⟨h, h1, ⟨r1, r2, hr1, hr2⟩, hbod, htag, bb, rfl, hbb⟩
            rw [HPS.out] at hr1
            rw [HBLS.out] at hr2
            have hp1 : ps[pre.length]? = some at_ := by
              rw [hr1, List.getElem?_append_left (by simp [pls]), show pls (pre ++ [(at_, t, v, body)]) = pls pre ++ [at_] by simp [pls], List.getElem?_append_right (by simp [pls])]
              simp [pls]
            have hp2 : bls[pre.length]? = some (t, body) := by
              rw [hr2, List.getElem?_append_left (by simp [bds]), show bds (pre ++ [(at_, t, v, body)]) = bds pre ++ [(t, body)] by simp [bds], List.getElem?_append_right (by simp [bds])]
              simp [bds]
            have hil : pre.length < L := by have := (List.getElem?_eq_some_iff.1 hp1).1; have := HLP.out; omega
            dsimp only at hbod htag hbb
            have HS5 := hide h
            have HH1 := hide h1
            have HBD := hide hbod
            have hbX := h.below
            have cJ := h.idx.cell
            have fJ := h.idx.frozen
            have cT' := h.turn.cell
            have cP := ((hbX.block Pp hPp).trans (show W0.heap[Pp]? = _ from G1r.out))
            have cP := cell_at cP 0
            have cB := ((hbX.block Pb hPb).trans (show W0.heap[Pb]? = _ from G2r.out))
            have cB := cell_at cB 0
            have cS := ((hbX.block w.heap.size hW0).trans (show W0.heap[w.heap.size]? = _ from F1r.out))
            have cS := cell_at cS 0
            obtain ⟨ad4, rfl, e4⟩ : ∃ ad, a4 = some ad ∧ X.cell? (ad.add pre.length) = some (.int .i64 (at_ : Nat)) := by
              obtain ⟨ao', c', e, hc⟩ := ints_below HIr.out hbX
              simp only [Value.slice.injEq] at e
              obtain ⟨rfl, _, _⟩ := e
              obtain ⟨ad, h1, h2⟩ := hc pre.length at_ hp1
              exact ⟨ad, h1, h2⟩
            obtain ⟨ad5, bv, rfl, e5, e6, hs5⟩ := blocks_get (blocks_keep HXr.out hbX) hp2
            obtain ⟨d0, d1⟩ := cells2 hbb
            obtain ⟨av, kv, rfl⟩ := src_form hbod.1
            obtain ⟨ab, kb, rfl⟩ := src_form hs5
            have s1 := fun q => src_string (src_drew hbod.1 q)
            have s2 := fun q => src_string (src_drew hs5 q)
            have i1 : (pre.length : Int) < (L : Int) := by omega
            have i2 : decide ((L : Int) ≤ (pre.length : Int)) = false := by simp; omega
            have i3 : decide (L ≤ pre.length) = false := by simp; omega
            generalize bstr body = Y at s1 s2
            subst hAc
            clear h h1 hbod hs5 hp1 hp2 hr1 hr2 hbb hbX
            dsimp only
            gi_wp2_with fail
            refine region_quiet_round rfl (by kernel_rfl) (by kernel_rfl) (by kernel_rfl) ?_
            repeat (gi_big_quiet_step (fail))
            refine wpQuietIn_nil ?_
            intro _ hw'
            obtain ⟨nq, hw''⟩ := hw'
            subst hw''
            have hW17 : 17 ≤ W0.heap.size := by omega
            have hS17 : ∀ k', ScanS Bx gk k' → k' < W0.heap.size := by rintro k' (h | rfl | rfl) <;> omega
            have nw : IntKind.i64.wrap ((pre.length : Int) + 1) = ((pre.length + 1 : Nat) : Int) := by rw [IntKind.wrap_i64]; omega
            have hln : (pre ++ [((at_, t, .slice av body.length kv, body) : Itm)]).length = pre.length + 1 := by simp
            have HLN := hide hln
            clear hln
            by_cases hk1 : k = 1
            · subst hk1
              gi_wp2_with fail
              obtain ⟨hst, hko, hbl⟩ := sit_step HS5.out nq hTJ hJ0
              refine ⟨hko.from _, same_under hbl hS17, ?_⟩
              dsimp only
              rw [HLN.out]
              exact hst
            · obtain rfl : k = 0 := by omega
              by_cases hgt : stop < (pre.length : Int) + 1
              · have hgt2 : ¬ ((pre.length : Int) + 1 ≤ stop) := by omega
                gi_wp2_with fail
                obtain ⟨hst, hko, hbl⟩ := sit_step HS5.out nq hTJ hJ0
                refine ⟨hko.from _, ?_⟩
                dsimp only
                rw [HLN.out]
                exact ⟨rfl, hst, by omega⟩
              · have hgt2 : (pre.length : Int) + 1 ≤ stop := by omega
                gi_wp2_with fail
                obtain ⟨hst, hko, hbl⟩ := sit_step HS5.out nq hTJ hJ0
                refine ⟨hko.from _, same_under hbl hS17, ?_⟩
                dsimp only
                rw [HLN.out]
                exact ⟨hst, .inl (by omega)⟩
          case done =>
            rintro D ys X hD ⟨e1, e2⟩ ⟨h, h1⟩ hK
            have hlen : ys.length = L := by
              have h := HLP.out
              rw [← HPS.out, e1] at h
              simpa [pls] using h
            rw [hlen] at h
            have HS5 := hide h
            have HKd := hide hK
            have cJ := h.idx.cell
            have cT' := h.turn.cell
            have hbX := h.below
            have cP := ((hbX.block Pp hPp).trans (show W0.heap[Pp]? = _ from G1r.out))
            have cP := cell_at cP 0
            have HD := hide hD
            subst hAc
            clear h h1 hK e1 e2 hbX hlen
            gi_wp2_with fail
            have hq : Below X.heap.size X (X.alloc (.cells #[.int .i64 ((k : Int) + 1)] 3)) := (Below.refl X.heap.size X).alloc (Nat.le_refl _) _
            have hzX := HS5.out.below.size
            have hzX1 := HS5.out.size
            have hkd := heap_old HKd.out (.cells #[.int .i64 ((k : Int) + 1)] 3)
            have hDn : D ∉ Ds := fun hm => by have := HMS.out D hm; have := HD.out; omega
            refine ⟨m - 1, by omega, k + 1, X.heap.size, D :: Ds, by omega, HS5.out.below.trans (hq.mono hzX), ?_, hzX, marks_cons (marks_below HS5.out.marks hq) hkd hDn (by have := HD.out; omega), ?_⟩
            · have e : ((k + 1 : Nat) : Int) = (k : Int) + 1 := by omega
              rw [e]
              exact Boxed.new X 3 _
            · repeat apply Exists.intro
              rfl
          case stop =>
            rintro D c pre X hD hS ⟨rfl, h, rfl, hst⟩ hK
            have HS5 := hide h
            have HKd := hide hK
            have cJ := h.idx.cell
            have cT' := h.turn.cell
            have hbX := h.below
            have cP := ((hbX.block Pp hPp).trans (show W0.heap[Pp]? = _ from G1r.out))
            have cP := cell_at cP 0
            have cS := ((hbX.block w.heap.size hW0).trans (show W0.heap[w.heap.size]? = _ from F1r.out))
            have cS := cell_at cS 0
            have hst2 : ¬ ((pre.length : Int) ≤ stop) := by omega
            have HD := hide hD
            subst hAc
            clear h hK hbX hS
            gi_wp2_with fail
            all_goals
              have hq : Below X.heap.size X (X.alloc (.cells #[.int .i64 1] 3)) := (Below.refl X.heap.size X).alloc (Nat.le_refl _) _
              have hzX := HS5.out.below.size
              have hzX1 := HS5.out.size
              have hkd := heap_old HKd.out (.cells #[.int .i64 1] 3)
              have hDn : D ∉ Ds := fun hm => by have := HMS.out D hm; have := HD.out; omega
              exact ⟨m - 1, by omega, 1, by omega, HS5.out.below.trans (hq.mono hzX), X.heap.size, Boxed.new X 3 _, hzX, D :: Ds, marks_cons (marks_below HS5.out.marks hq) hkd hDn (by have := HD.out; omega), rfl, rfl⟩
        · obtain rfl : k = 2 := by omega
          have fR := (HB.out.block R hlR).trans F2r.out
          have cR := cell_at fR 0
          have fzR := free_at fR 0
          gi_wp2_with fail
          refine leaves_marks Ds _ (marks_others HM.out (KeepsOthers.setCell _ _ _)) (by rw [World.size_setCell]; exact zW) (fun W' hp => ?_)
          have hR' := hp.2 _ _ _ _ (heap_set fR (.bool true))
          have hc : W'.cell? ⟨R, 0, none⟩ = some (.bool true) := by rw [cell_at hR' 0]; rfl
          have hbw := (HBr.out.trans (HB.out.mono zr)).setCell (p := ⟨R, 0, none⟩) (Nat.le_of_lt q1) (.bool true)
          refine (show LeavesIn _ _ _ _ _ _ [] .returning W' from ⟨.bool true, ?_, rfl, hbw.trans (hp.1.mono zr)⟩)
          simp [results, Tryd.f13, go_sem, hc]

/-! the frame, by program -/
set_option maxRecDepth 100000 in
theorem contract (H : Type) (enc : TypeId × Value → H) (W : World) (base : Nat) (args : Array Value) (ds gs : List (DataW H)) (before : List MemPlace)
    (hval : ∀ (j : Nat) t v, Tryd.f13.params[j]? = some t → args[j]? = some v → Value.okWide Tryd.prog W .any base t v)
    (hW : DataW.Whole enc Tryd.prog Tryd.f13.params.toList Rows.frameScansSpec.vars false W args.toList ds gs before) (hL : laidMetH Tryd.prog Rows.frameScansRow.laid W)
    (hsz : (DataW.weightsEach Tryd.prog (Tryd.f13.params.toList ++ []) (ds ++ gs)).all (· ≤ reachBytes) = true) (hk : Rows.uptoSmall H (ds ++ gs) = true) :
    Calls Tryd.prog 13 args W fun e W' => ∃ v, e = .returned v ∧ Rows.frameScansSpec.post enc Tryd.prog Tryd.f13 false true false false W args v W' := by
  have hW' := hW
  obtain ⟨p, q, hA0, hV, rfl, hfz, hnd⟩ := hW
  have hA : DataW.TrodAll enc Tryd.prog W 0 (fun _ => true) true Tryd.f13.params.toList args.toList ds p := hA0
  rw [Tryd.params13] at hA hval hsz
  obtain ⟨v0, vs0, d0, ds0, p0, q0, hargs, rfl, rfl, h0, r0⟩ := trodAll_cons hA
  obtain ⟨v1, vs1, d1, ds1, p1, q1, rfl, rfl, rfl, h1, r1⟩ := trodAll_cons r0
  obtain ⟨rfl, rfl, rfl⟩ := trodAll_nil r1
  obtain rfl : args = #[v0, v1] := by cases args; simp_all
  obtain ⟨rfl, rfl⟩ := trodVars_none hV
  obtain ⟨b0, s0, g0⟩ := open_bytes (hval 0 25 v0 rfl rfl) h0
  have e0 := small_bytes hk (j := 0) rfl g0
  obtain ⟨x1, rfl, rfl, rfl, w1⟩ := open_int Tryd.underlying3 (hval 1 3 v1 rfl rfl) h1
  obtain ⟨l1, u1⟩ := bounds_i64 w1
  clear hA0
  simp only [List.append_nil] at hW'
  have hl : laidMet Tryd.prog Rows.frameScansRow.laid W := hL
  obtain ⟨Z, hg⟩ := zip_of_mem hl (by simp [Rows.frameScansRow])
  have hreads : ∀ g ∈ ([0, 1, 2, 6] : List Nat), ErrRead W g := by
    intro g hg
    simp only [List.mem_cons, List.not_mem_nil, or_false] at hg
    rcases hg with rfl | rfl | rfl | rfl
    · exact read0 hl (by simp [Rows.frameScansRow])
    · exact read1 hl (by simp [Rows.frameScansRow])
    · exact read2 hl (by simp [Rows.frameScansRow])
    · exact read6 hl (by simp [Rows.frameScansRow])
  obtain ⟨E, hE⟩ := errs_of_reads hreads (by decide +kernel)
  have hg2 := World.block_lt_of_cell? W _ (hE.cell 6 (by decide))
  simp only at hg2
  refine (walk W Z E hE (by omega) _ b0 s0 _ (by omega) (by omega) (by omega)).mono fun e W' ⟨he, hb⟩ => ?_
  subst he
  exact ⟨_, rfl, law_post hW' rfl rfl rfl (by kernel_rfl) hb⟩

noncomputable def laidWorld (os : Os) : World := World.doorLaid Tryd.prog 475 os
noncomputable def wargs : Array Value := #[.slice none 0 0, .int .i64 0]
theorem laid_met (os : Os) : laidMetH Tryd.prog Rows.frameScansRow.laid ((laidWorld os).forCall (fun _ _ => 0) ⟨#[], wargs, []⟩).memory :=
  laidMetH_of_parts3 (fuel := 8) (laidMet_of_run' 8 (by kernel_rfl) (by kernel_rfl)) (by kernel_rfl) (by kernel_rfl)
theorem reads (os : Os) {H : Type} (enc : TypeId × Value → H) : ∃ places, DataW.whole enc Tryd.prog ((laidWorld os).forCall (fun _ _ => 0) ⟨#[], wargs, []⟩).memory Tryd.f13.params.toList Rows.frameScansSpec.vars false wargs.toList 8 = some ([.nil, .lit (.int .i64 0)], [], places) :=
  ⟨[], by kernel_rfl⟩

set_option maxRecDepth 100000 in
theorem lifted (os : Os) (started : os.Started) (H : Type) (enc : TypeId × Value → H) (F : Stop.Interp) :
    ReturnsInHanded {} Tryd.checked os 13 .any ((Rows.OpenSpec.upto Rows.frameScansSpec).preRow enc Tryd.prog Tryd.f13 Rows.frameScansUptoRow.domain false Rows.frameScansUptoRow.laid) (((Rows.OpenSpec.upto Rows.frameScansSpec).at F).post enc Tryd.prog Tryd.f13 false true false false) := by
  obtain ⟨places, hx⟩ := reads os enc
  refine returnsInHanded_of_row (C := Tryd.checked) (s := Rows.OpenSpec.upto Rows.frameScansSpec) own started (by kernel_rfl) Tryd.func13
    (witness_row_atRef (enc := enc) (C := Tryd.checked) false (laidWorld os) wargs rfl (by kernel_rfl) (by kernel_rfl) (by kernel_rfl)
      (OpenSpec.preRow_of_cond 8 hx (by kernel_rfl) (fun k hk => by cases hk; kernel_rfl) (by kernel_rfl) (laid_met os))) ?_
  intro W base args ds gs before hval hW _ hcond hsz hL _ _
  exact contract H enc W base args ds gs before hval hW hL hsz (hcond _ rfl)

theorem fact0 : (Rows.frameScansUptoRow.wf (OpenSpec.ofChange (Rows.OpenSpec.upto Rows.frameScansSpec).bare)) = true := by kernel_rfl
theorem fact3 : (Tryd.f13.params.all (Tryd.prog.readableRec ·)) = true := by kernel_rfl
theorem fact4 : (namedTie Tryd.prog Rows.frameScansUptoRow.named (Rows.OpenSpec.upto Rows.frameScansSpec).bare.vars) = true := by kernel_rfl
theorem fact5 : ((Rows.frameScansUptoRow.stops == [])) = true := by kernel_rfl
theorem fact7 : ((Rows.frameScansUptoRow.knobs == [])) = true := by kernel_rfl
theorem fact9 : ((Rows.frameScansUptoRow.inPlace == Tryd.prog.inPlace 13)) = true := by kernel_rfl
theorem fact10 : ((Rows.frameScansUptoRow.unfollowed == Tryd.prog.unfollowed 13)) = true := by kernel_rfl
theorem fact11 : ((Rows.frameScansUptoRow.recurses == Tryd.prog.recurses 13)) = true := by kernel_rfl
theorem fact12 : ((Rows.frameScansUptoRow.named == Tryd.prog.varsNamed 13)) = true := by kernel_rfl
theorem fact13 : ((Rows.frameScansUptoRow.maps == (Tryd.f13.params.toList ++ (Rows.OpenSpec.upto Rows.frameScansSpec).bare.plain.varTypes Tryd.prog).any (Tryd.prog.mapsRec ·))) = true := by kernel_rfl
theorem fact14 : ((Rows.frameScansUptoRow.ifaces == (Tryd.f13.params.toList ++ (Rows.OpenSpec.upto Rows.frameScansSpec).bare.plain.varTypes Tryd.prog).any (Tryd.prog.ifacesRec ·))) = true := by kernel_rfl
theorem fact15 : ((Rows.frameScansUptoRow.mapsOut == Tryd.prog.mapsAmong Tryd.f13.resultTypes.toList)) = true := by kernel_rfl
theorem fact16 : ((Rows.frameScansUptoRow.loops == (Tryd.f13.params.toList ++ (Rows.OpenSpec.upto Rows.frameScansSpec).bare.plain.varTypes Tryd.prog).any (Tryd.prog.loopsFrom ·))) = true := by kernel_rfl
theorem fact17 : ((Rows.frameScansUptoRow.wideKeys == (Tryd.f13.params.toList ++ (Rows.OpenSpec.upto Rows.frameScansSpec).bare.plain.varTypes Tryd.prog ++ Tryd.f13.resultTypes.toList).any (Tryd.prog.wideKeysFrom ·))) = true := by kernel_rfl
theorem fact18 : ((Rows.OpenSpec.upto Rows.frameScansSpec).bare.vars.all (Tryd.prog.varReadable ·)) = true := by kernel_rfl
theorem fact19 : (Tryd.f13.resultTypes.all (fun t => Tryd.prog.readableRec t && decide (t < Tryd.prog.types.size))) = true := by kernel_rfl
theorem fact20 : ((Rows.frameScansUptoRow.ifacesOut == Tryd.f13.resultTypes.toList.any (Tryd.prog.ifacesRec ·))) = true := by kernel_rfl
theorem fact21 : ((Rows.frameScansUptoRow.loopsOut == Tryd.f13.resultTypes.toList.any (Tryd.prog.loopsFrom ·))) = true := by kernel_rfl
theorem fact22 : ((Rows.frameScansUptoRow.plainKeys == Tryd.prog.plainKeys)) = true := by rw [Tryd.keys]; kernel_rfl
theorem fact23 : (Rows.frameScansUptoRow.shortTexts.isNone) = true := by kernel_rfl
theorem fact26 : ((Rows.frameScansUptoRow.lifted == Tryd.prog.liftsFinal)) = true := by rw [Tryd.lifts]; kernel_rfl
theorem fact27 : ((Tryd.prog.make == some Rows.frameScansUptoRow.make)) = true := by rw [Tryd.makes]; kernel_rfl
theorem fact29 : ((Rows.frameScansUptoRow.pinned == Rows.frameScansUptoRow.pinnedBy)) = true := by kernel_rfl
theorem fact30 : ((Rows.frameScansUptoRow.veiled == (Tryd.f13.params.toList ++ (Rows.OpenSpec.upto Rows.frameScansSpec).bare.plain.varTypes Tryd.prog ++ Tryd.f13.resultTypes.toList).any (Tryd.prog.veiledRec ·))) = true := by kernel_rfl
theorem fact31 : (Rows.frameScansUptoRow.veiledFits Tryd.prog Tryd.f13.params.toList (Tryd.f13.params.toList ++ (Rows.OpenSpec.upto Rows.frameScansSpec).bare.plain.varTypes Tryd.prog ++ Tryd.f13.resultTypes.toList)) = true := by kernel_rfl
theorem closed : joinedFacts Tryd.prog 13 Tryd.f13 (Rows.OpenSpec.upto Rows.frameScansSpec).bare Rows.frameScansUptoRow = true :=
  facts_of fact0 Tryd.laidOut Tryd.rowed fact3 fact4 fact5 Tryd.noStops fact7 Tryd.noKnobs fact9 fact10 fact11 fact12 fact13 fact14 fact15 fact16 fact17 fact18 fact19 fact20 fact21 fact22 fact23 Tryd.heard Tryd.mayEnter fact26 fact27 (by kernel_rfl) fact29 fact30 fact31
theorem named : Tryd.prog.funcNamed Rows.frameScansUptoRow.func = some 13 := by kernel_rfl
theorem instanced : Tryd.f13.isInstance Tryd.prog Rows.frameScansUptoRow.origin Rows.frameScansUptoRow.targs := of_decide_eq_true (by kernel_rfl)
theorem wrapped : Tryd.f13.isWrapper Tryd.prog Rows.frameScansUptoRow.wrapper Rows.frameScansUptoRow.mainSum := by unfold Func.isWrapper; first | (rw [if_pos (by decide +kernel)]; kernel_rfl) | (rw [if_neg (by decide +kernel)]; exact ⟨rfl, rfl⟩)
theorem said : Rows.FrameScansUptoSaid :=
  OpenClaim.holds_of_cond 13 Tryd.f13 rfl rfl rfl rfl rfl rfl rfl ⟨rfl, rfl, rfl, rfl, rfl⟩ rfl rfl rfl rfl rfl named Tryd.func13 closed
    instanced wrapped
    (fun os started H enc _ F => by rw [OpenClaim.pre_eq_preRow]; exact lifted os started H enc F)

theorem plain (f : FuncId) (fn : Func) (hf : Tryd.pinned.checked.prog.funcNamed "concord/concordlaw02.FrameScans" = some f) (hfn : Tryd.pinned.checked.prog.funcs[f]? = some fn) :
    true = Tryd.pinned.checked.prog.looks [] ∧ ∀ (j : Nat) t, fn.params[j]? = some t → Tryd.pinned.checked.prog.wantsStandIn t = false := by
  obtain rfl : f = 13 := Option.some.inj ((show Tryd.prog.funcNamed "concord/concordlaw02.FrameScans" = some 13 by kernel_rfl).symm.trans hf) |>.symm
  obtain rfl : fn = Tryd.f13 := (Option.some.inj (Tryd.func13.symm.trans hfn)).symm
  have hall : Tryd.f13.params.toList.all (fun t => !Tryd.pinned.checked.prog.wantsStandIn t) = true := by kernel_rfl
  refine ⟨by kernel_rfl, fun j t ht => ?_⟩
  have := List.all_eq_true.1 hall t (by simpa using Array.mem_of_getElem? ht)
  simpa using this

/-- THE CARD -/
theorem card : Rows.FrameScansUptoCardSaid :=
  Claim7.holds_tied_plain_at .later [] _ _ _ _ said (fun _ h => by cases h) (by kernel_rfl) (fun _ h => by cases h) frameScansUpto_row_tie rfl ⟨rfl, rfl⟩ (by kernel_rfl) rfl plain (by kernel_rfl)
end Go.Proofs.YtgebekklkodpaaaDoor.frameScans
