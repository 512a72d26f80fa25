/- Proved: for every kind and every list of blocks (up to the Upto row's bulk), FrameOwnsImage returns true (what is handed in to Pack and Unpack stays, spare room too; what they answer is new memory; a list written over is asked anew), and nothing that lay in memory ahead of the call has changed. Conditions: the package variables that the row lists (five errors, frame.zipTable, frame.sealTable) hold what their initialisers lay; the card ties that to the text. -/
import Derived.Test.YtgebekklkodpaaaDoorMOwnsImage0
import Derived.Test.YtgebekklkodpaaaDoorMOwnsImage1
import Derived.Test.YtgebekklkodpaaaDoorMOwnsImage2
import Derived.Test.YtgebekklkodpaaaDoorMOwnsImage3
import Derived.Test.YtgebekklkodpaaaDoorMOwnsImage4
import Derived.Test.YtgebekklkodpaaaDoorMOwnsImage5
import Derived.Deep.DeepWitnessRowRef
namespace Go.Proofs.YtgebekklkodpaaaDoor.frameOwnsImage
open Go.ChangeShapes Go.WideShapes Go.ChangeAt Go.RowKit Go.Proofs.YtgebekklkodpaaaDoor

/-- the whole of each body's row: the body, the room behind it -/
def Full (w : World) (its : List It) (vs : List Value) : Prop := ∀ (k : Nat) (x : It), its[k]? = some x →
  ∃ g, x.2.1 = .slice (some ⟨g, 0, none⟩) x.2.2.length (x.2.2.length + 80) ∧ vs[k]? = some (.slice (some ⟨g, 0, none⟩) (x.2.2.length + 80) (x.2.2.length + 80)) ∧ w.heap[g]? = some (.cells (u8s (x.2.2 ++ room 80)).toArray 5 (0, 0))
theorem full_keepTy {w w' : World} {its : List It} {vs : List Value} (h : Full w its vs) (hk : KeepTy w w' 5) : Full w' its vs := fun k x hx => by
  obtain ⟨g, h1, h2, h3⟩ := h k x hx
  exact ⟨g, h1, h2, hk _ _ _ h3⟩
theorem full_snoc {w : World} {its : List It} {vs : List Value} (h : Full w its vs) (hl : vs.length = its.length) (t : Nat) (g : Nat) (body : List Nat) (hg : w.heap[g]? = some (.cells (u8s (body ++ room 80)).toArray 5 (0, 0))) :
    Full w (its ++ [(t, .slice (some ⟨g, 0, none⟩) body.length (body.length + 80), body)]) (vs ++ [.slice (some ⟨g, 0, none⟩) (body.length + 80) (body.length + 80)]) := by
  intro k x hx
  by_cases hk : k < its.length
  · rw [List.getElem?_append_left hk] at hx
    obtain ⟨g', h1, h2, h3⟩ := h k x hx
    exact ⟨g', h1, by rw [List.getElem?_append_left (by omega)]; exact h2, h3⟩
  · rw [List.getElem?_append_right (by omega)] at hx
    have hk0 : k - its.length = 0 := by
      have := (List.getElem?_eq_some_iff.1 hx).1
      simp at this
      omega
    rw [hk0] at hx
    simp at hx
    subst hx
    refine ⟨g, rfl, ?_, hg⟩
    rw [List.getElem?_append_right (by omega), hl, hk0]
    rfl
/-- two rows of blocks, one behind the other -/
theorem run_rows (w : World) (B B2 : Nat) (v u : Value) (xs ys : List It) (ty : TypeId) (hown : w.ownsRow B 47 2 v xs.length (cellsOf xs)) (hu : w.ownsRow B2 47 2 u ys.length (cellsOf ys)) (hone : ∀ x ∈ cellsOf ys, x.oneCell' = true) (hl : xs.length + ys.length ≤ 1099511627776) (hB : B ≤ w.heap.size) :
    ∃ v' w', (Builtin.append_ #[38, 38] ty #[v, u]).run Tryd.prog w = .ok v' w' ∧ w'.ownsRow B 47 2 v' (xs ++ ys).length (cellsOf (xs ++ ys)) ∧ w.grownBy w' v.ownBlock := by
  obtain ⟨i0, hi, hz0, hz1, hz2⟩ := info_parts info47
  rcases hu.2 with ⟨rfl, h0⟩ | ⟨g, cap, cur, rfl, hb, hh, hc, hm, hs, ht⟩
  · have hn := List.eq_nil_of_length_eq_zero h0
    subst hn
    refine ⟨v, w, run_append_owned_none (P := Tryd.prog) (w := w) B 38 ty 47 i0 2 Tryd.underlying38 hi v xs.length (cellsOf xs) hown, ?_, ⟨rfl, rfl, rfl, Nat.le_refl _, fun _ _ _ => rfl⟩⟩
    rw [List.append_nil]
    exact hown
  · obtain ⟨v', w', h1, h2, h3, _⟩ := run_append_own (P := Tryd.prog) w B 38 ty 47 i0 (.agg #[.int .u8 0, .slice none 0 0]) 2 32 Tryd.underlying38 hi hz0 hz1 hz2 rfl (by decide) v xs.length (cellsOf xs) hown ⟨g, 0, none⟩ ys.length cap (cellsOf ys) hu.1
      (fun j x hx => World.ownsRow.cells hu rfl j x hx) hone (by simp only [maxLen]; omega) (by omega) hB
    refine ⟨v', w', h1, ?_, h3⟩
    rw [cellsOf_app, List.length_append]
    exact h2
theorem append_rows {ops : Array Oper} {rest : List Oper} {o : Oper} {a : Act} {Q : Exit → Act → World → Prop} (w0 w : World) (B B2 : Nat) (v u : Value) (xs ys : List It) (hgd : o.guard = none) (s y : Operand)
    (ho : o.op = .call { callee := .builtin .append, args := #[s, y], argTypes := #[38, 38] }) (hs : a.eval s = v) (hy : a.eval y = u)
    (hown : w.ownsRow B 47 2 v xs.length (cellsOf xs)) (hu : w.ownsRow B2 47 2 u ys.length (cellsOf ys)) (hone : ∀ x ∈ cellsOf ys, x.oneCell' = true) (hl : xs.length + ys.length ≤ 1099511627776) (hB : B ≤ w.heap.size) (hb : Below B w0 w)
    (h : ∀ v' w', w'.ownsRow B 47 2 v' (xs ++ ys).length (cellsOf (xs ++ ys)) → Below B w0 w' → (∀ t, 47 ≠ t → KeepTy w w' t) → wpList Tryd.prog ops Q rest (a.put o.dst v') w') :
    wpList Tryd.prog ops Q (o :: rest) a w := by
  obtain ⟨v', w', hr, h1, h2⟩ := run_rows w B B2 v u xs ys o.type hown hu hone hl hB
  refine wpList_plain hgd fun K hK => ?_
  unfold Oper.wp execOp
  simp only [ho, resolve, invoke, builtin, Sem.run_bind, Sem.run_pure, Result.andThen_ok, List.map_toArray, List.map_cons, List.map_nil, hs, hy, hr]
  exact hK _ _ (h v' w' h1 (hb.grown h2 hB (fun k hk => (World.ownsRow.lt hown k hk).1)) (fun t ht => keepTy_grown h2 (notTy_row hown ht)))
theorem cells_ones {its : List It} (h : ∀ x ∈ its, ∃ a n c, x.2.1 = .slice a n c) : ∀ u ∈ cellsOf its, u.oneCell' = true := by
  intro u hu
  simp only [cellsOf, List.mem_flatMap] at hu
  obtain ⟨x, hx, hu⟩ := hu
  obtain ⟨a, n, c, e⟩ := h x hx
  simp only [List.mem_cons, List.not_mem_nil, or_false] at hu
  rcases hu with rfl | rfl
  · rfl
  · rw [e]; rfl
def x77 : It := (77, .slice none 0 0, [])
def x78 : It := (78, .slice none 0 0, [])
theorem mk_tot : ∀ (k : Nat) (its : List It), tot (blOf (mkIts k its)) = tot (blOf its)
  | _, [] => rfl
  | k, x :: r => by
    have := mk_tot (k + 1) r
    simp only [blOf, mkIts, tot, List.map_cons, List.sum_cons, mrow_len] at *
    omega
theorem mk_tags : ∀ (k : Nat) (its : List It), (blOf (mkIts k its)).length = its.length := by
  intro k its
  simp [blOf, mkIts_len]
theorem mk_ok (k : Nat) {its : List It} (h : ∀ x ∈ blOf its, x.1 ≠ 0 ∧ x.1 < 256 ∧ (∀ y ∈ x.2, y < 256) ∧ x.2.length < 18446744073709551616) : ∀ x ∈ blOf (mkIts k its), x.1 ≠ 0 ∧ x.1 < 256 ∧ (∀ y ∈ x.2, y < 256) ∧ x.2.length < 18446744073709551616 := by
  intro x hx
  obtain ⟨y, hy, rfl⟩ := List.mem_map.1 hx
  obtain ⟨j, hj⟩ := List.mem_iff_getElem?.1 hy
  obtain ⟨z, hz, rfl⟩ := mkIts_getI hj
  have hm := h (z.1, z.2.2) (List.mem_map.2 ⟨z, List.mem_of_getElem? hz, rfl⟩)
  exact ⟨hm.1, hm.2.1, mrow_lt _ _, by simp only [mrow_len]; exact hm.2.2.2⟩

set_option maxRecDepth 100000 in
set_option maxHeartbeats 8000000 in
theorem walk_pos (w : World) (Z : Zip w) (S : SealT w) (E : Nat → Addr) (hE : Errs w E dErrs) (hE5 : ErrAt w 5 (E 5)) (hg : 17 ≤ w.heap.size) (kind : Nat) (hk : kind < 256) (hk0 : kind ≠ 0) (v : Value) (bl : List Bl) (hv : Blocks w v bl) (hnz : ∀ x ∈ bl, x.1 ≠ 0) (ht : tot bl ≤ 15728640) :
    Calls Tryd.prog 20 #[.int .u8 kind, v] w fun e w' => e = .returned (.bool true) ∧ Below w.heap.size w w' := by
  obtain ⟨ao, cap, rfl⟩ := blocks_form' hv
  have hlen := len_tot bl
  have hok : ∀ x ∈ bl, x.1 ≠ 0 ∧ x.1 < 256 ∧ (∀ y ∈ x.2, y < 256) ∧ x.2.length < 18446744073709551616 := by
    obtain ⟨ao', cap', hvv, hBB⟩ := blocks_form hv
    intro x hx
    have h := blocks_ok hBB (by omega) x hx
    rw [Uv.u64_eq] at h
    exact ⟨hnz x hx, h⟩
  have HOK := hide hok
  have HZ := hide Z
  have HS := hide S
  have HE := hide hE
  have HE5 := hide hE5
  have HV := hide hv
  have HNZ := hide hnz
  have HK0 := hide hk0
  have himl := img_len kind bl
  have himlt := img_lt (kind := kind) (bl := bl) hk (by rw [Uv.u64_eq]; omega) (fun x hx => by have h := hok x hx; rw [Uv.u64_eq]; exact h.2)
  obtain ⟨im, him⟩ : ∃ im, img kind bl = im := ⟨_, rfl⟩
  rw [him] at himl himlt
  obtain ⟨N, hN⟩ : ∃ N, im.length = N := ⟨_, rfl⟩
  rw [hN] at himl
  have HIM := hide him
  have HNB := hide hN
  have HLT := hide himlt
  clear Z S hE hE5 hv hnz hk0 hok him hN himlt
  go_enter Tryd.func20, Tryd.ntmps20
  go_wp2_with fail
  refine (lives_any w HZ.out (by omega)).mono ?_
  rintro e w1 ⟨rfl, hb1⟩
  have HB1 := hide hb1
  have z1 := hb1.size
  clear hb1
  have HRP := hide (ref_pack_any w1 kind hk HK0.out _ bl (blocks_keep HV.out HB1.out) (by omega))
  go_wp2_with fail
  refine HRP.out.mono ?_
  rintro e w2 ⟨hb2, hcase⟩
  have hcase2 : ∃ v, e = .returned (.tuple #[v, .int .i64 0]) ∧ Own w2 w1.heap.size v (img kind bl) := by
    rcases hcase with ⟨⟨x, hx, hx0⟩, _⟩ | ⟨_, h⟩
    · exact absurd hx0 (HNZ.out x hx)
    · exact h
  obtain ⟨vw, rfl, how⟩ := hcase2
  rw [HIM.out] at how
  obtain ⟨aw, cw, rfl⟩ := row_shape how
  rw [HNB.out] at how ⊢
  have HW2 := hide how
  have HB2 := hide (HB1.out.trans (hb2.mono z1))
  have z2 := HB2.out.size
  clear hb2 hcase how HRP
  have c1 : BFam ((w2.alloc (.cells #[] 47)).alloc (.cells #[] 25)) w2.heap.size (.slice (some ⟨w2.heap.size, 0, none⟩) 0 0) [] := bfam_below (bfam_nil w2 w2.heap.size (Nat.le_refl _)) ((Below.refl _ _).alloc (Nat.le_refl _) _)
  have c2 : HOwn ((w2.alloc (.cells #[] 47)).alloc (.cells #[] 25)) w2.heap.size (.slice (some ⟨w2.heap.size + 1, 0, none⟩) 0 0) [] := by
    have h := World.ownsRow_lit (base := w2.heap.size) (e := 25) (size := 1) (w2.alloc (.cells #[] 47)) #[] 0 (by simp) (by simp [maxLen]) (by simp)
    rw [World.size_alloc] at h
    simpa [HOwn] using h
  have C1 := hide c1
  have C2 := hide c2
  have HBA := hide ((Below.refl w2.heap.size w2).alloc (Nat.le_refl _) (.cells #[] 47) |>.alloc (by simp) (.cells #[] 25))
  clear c1 c2
  go_wp2_with fail
  go_loopw [7, 8, 34] (fun s7 s8 c wr => ∃ (i : Nat) (its : List It) (vs : List Value), i ≤ bl.length ∧ c = .int .i64 i ∧ blOf its = bl.take i ∧ BFam wr w2.heap.size s7 its ∧ HOwn wr w2.heap.size s8 vs ∧ vs.length = i ∧ Full wr its vs ∧ Below w2.heap.size w2 wr) (fun _ _ c _ => bl.length - (intOf c).toNat)
  case atStart => exact ⟨0, [], [], by omega, rfl, rfl, C1.out, C2.out, rfl, (by intro k x hx; simp at hx), HBA.out⟩
  case round =>
    obtain ⟨i, its, vs, hi, rfl, hbl, hf, hh, hvl, hfull, hb⟩ := hrel
    have hil : its.length = i := by have := congrArg List.length hbl; simp [blOf] at this; omega
    obtain ⟨a7, k7, rfl⟩ := row_shape hf.1
    obtain ⟨a8, k8, rfl⟩ := row_shape hh
    rw [hil] at hf ⊢
    rw [hvl] at hh ⊢
    have HIL := hide hil
    have HVL := hide hvl
    have HF := hide (show BFam wr w2.heap.size (.slice a7 i k7) its from hf)
    have HH := hide hh
    have HFU := hide hfull
    have HB := hide hb
    have HBL := hide hbl
    have hsr := hb.size
    clear hil hvl hf hh hfull hb hbl
    by_cases hlt : i < bl.length
    · obtain ⟨x, hx⟩ : ∃ x, bl[i]? = some x := ⟨_, List.getElem?_eq_getElem hlt⟩
      obtain ⟨ad, bv, rfl, c0, c1, hs1⟩ := blocks_get (blocks_keep HV.out (HB2.out.trans (HB.out.mono z2))) hx
      have hi1 : (i : Int) < (bl.length : Int) := by omega
      have HX := hide (HOK.out x (List.mem_of_getElem? hx))
      have hge := get_tot (List.mem_of_getElem? hx)
      have HXI := hide hx
      have hq : Below wr.heap.size wr (wr.alloc (.cells #[.int .u8 (x.1 : Nat), bv] 47)) := (Below.refl _ _).alloc (Nat.le_refl _) _
      have hd := heap_new (w := wr) rfl (.cells #[.int .u8 (x.1 : Nat), bv] 47)
      obtain ⟨d0, d1⟩ := cells2 hd
      have HD := hide hd
      have HQ := hide hq
      have HSP := hide (spare_any (wr.alloc (.cells #[.int .u8 (x.1 : Nat), bv] 47)) _ x.2 (src_keep hs1 hq) (by omega))
      obtain ⟨ax, cx, rfl⟩ := src_form hs1
      clear hx hs1 hd hq
      obtain ⟨t, body⟩ := x
      dsimp only at c0 c1 d0 d1 HX hge HXI HD HQ HSP ⊢
      go_wp2_with fail
      refine HSP.out.mono ?_
      rintro e w4 ⟨g4, rfl, hg4, hh4, hb4⟩
      rw [World.size_alloc] at hg4
      have hb04 := HQ.out.trans (hb4.mono HQ.out.size)
      have HB04 := hide hb04
      have z4 := hb04.size
      have hg4l := heap_lt hh4
      have hd4 := (hb4.block _ (by rw [World.size_alloc]; omega)).trans HD.out
      obtain ⟨e0, e1⟩ := cells2 hd4
      have hq5 : Below w4.heap.size w4 (w4.alloc (.cells #[.int .u8 (t : Nat), .slice (some ⟨g4, 0, none⟩) body.length (body.length + 80)] 47)) := (Below.refl _ _).alloc (Nat.le_refl _) _
      have HF5 := hide (bfam_below HF.out (hb04.trans (hq5.mono z4)))
      have HH5 := hide (row_keepTy HH.out (keepTy_below (hb04.trans (hq5.mono z4)) 25))
      have HFU5 := hide (full_keepTy HFU.out (keepTy_below (hb04.trans (hq5.mono z4)) 5))
      have HG5 := hide (heap_old hh4 (.cells #[.int .u8 (t : Nat), .slice (some ⟨g4, 0, none⟩) body.length (body.length + 80)] 47))
      have HA5 := hide (show Own (w4.alloc (.cells #[.int .u8 (t : Nat), .slice (some ⟨g4, 0, none⟩) body.length (body.length + 80)] 47)) w2.heap.size (.slice (some ⟨g4, 0, none⟩) body.length (body.length + 80)) body from own_front HG5.out (by omega) (body.length + 80) (by rw [room_len]) (by rw [room_len]; omega))
      have HN5 := hide (heap_new (w := w4) rfl (.cells #[.int .u8 (t : Nat), .slice (some ⟨g4, 0, none⟩) body.length (body.length + 80)] 47))
      have hap : ∀ y ∈ its, ∀ q, y.2.1.ownBlock = some q → (Value.slice (some ⟨g4, 0, none⟩) body.length (body.length + 80)).ownBlock ≠ some q := by
        intro y hy q hq e
        have h1 := (World.ownsRow.lt (bfam_mem HF.out hy).1 q hq).2
        simp only [Value.ownBlock, Option.some.injEq] at e
        omega
      have HAP := hide hap
      have HBQ := hide (HB.out.trans ((hb04.trans (hq5.mono z4)).mono hsr))
      have zq := HBQ.out.size
      have HLI := hide (show its.length ≤ 1099511627776 by rw [HIL.out]; omega)
      clear hh4 hb4 hb04 hd4 hq5 hap HSP HB04
      go_wp2_with (refine append_blkF w2 _ w2.heap.size w4.heap.size _ its (t, .slice (some ⟨g4, 0, none⟩) body.length (body.length + 80), body) rfl (.tmp 44) (.tmp 49) rfl rfl rfl HF5.out HX.out.2.1 HA5.out HX.out.2.2.1 HAP.out HN5.out HLI.out zq HBQ.out ?_)
      intro v6 w6 hf6 hb6 hk6
      obtain ⟨a6, k6, rfl⟩ := row_shape hf6.1
      rw [show (its ++ [((t, .slice (some ⟨g4, 0, none⟩) body.length (body.length + 80), body) : It)]).length = its.length + 1 by simp] at hf6 ⊢
      have z6 := hb6.size
      have hq7 : Below w6.heap.size w6 (w6.alloc (.cells #[.slice (some ⟨g4, 0, none⟩) (body.length + 80) (body.length + 80)] 25)) := (Below.refl _ _).alloc (Nat.le_refl _) _
      have HF7 := hide (bfam_below hf6 hq7)
      have HH7 := hide (show HOwn _ _ _ _ from row_keepTy (row_keepTy HH5.out (hk6 25 (by decide))) (keepTy_below hq7 25))
      have HFU7 := hide (full_keepTy (full_keepTy HFU5.out (hk6 5 (by decide))) (keepTy_below hq7 5))
      have HG7 := hide (keepTy_below hq7 5 _ _ _ (hk6 5 (by decide) _ _ _ HG5.out))
      have HB7 := hide (hb6.trans (hq7.mono z6))
      have z7 := HB7.out.size
      have HNW := hide (one_new w6 (.slice (some ⟨g4, 0, none⟩) (body.length + 80) (body.length + 80)) 25)
      have HLV := hide (show vs.length + 1 ≤ 2199023255552 by rw [HVL.out]; omega)
      clear hf6 hb6 hk6 hq7 HF5 HH5 HFU5 HG5 HA5 HN5
      go_wp2_with (refine append_heads w2 _ w2.heap.size _ vs [.slice (some ⟨g4, 0, none⟩) (body.length + 80) (body.length + 80)] rfl (.tmp 51) (.tmp 53) rfl rfl ⟨w6.heap.size, 0, none⟩ 1 1 rfl rfl HH7.out HNW.out (by simp [Value.oneCell']) HLV.out z7 HB7.out ?_)
      intro v8 w8 hh8 hb8 hk8
      have HF8 := hide (bfam_keepTy HF7.out (hk8 47 (by decide)) (hk8 5 (by decide)))
      have HFU8 := hide (full_snoc (full_keepTy HFU7.out (hk8 5 (by decide))) (by rw [HVL.out, HIL.out]) t g4 body (hk8 5 (by decide) _ _ _ HG7.out))
      have HH8 := hide hh8
      have HB8 := hide hb8
      clear hh8 hb8 hk8 HF7 HFU7 HG7 HH7
      go_wp2_with fail
      refine ⟨⟨i + 1, _, _, by omega, by simp, ?_, HF8.out, HH8.out, by simp [HVL.out], HFU8.out, HB8.out⟩, by simp [intOf]; omega⟩
      rw [blOf_app, HBL.out, List.take_add_one, HXI.out]
      rfl
    · obtain rfl : i = bl.length := by omega
      rw [List.take_length] at HBL
      have HB3 := hide (HB2.out.trans (HB.out.mono z2))
      have zr := HB3.out.size
      have HFLOW := hide HF.out.2.2
      have HW3 := hide (own_keep HW2.out HB.out)
      have hqA : Below wr.heap.size wr (wr.alloc (.cells #[] 47)) := (Below.refl _ _).alloc (Nat.le_refl _) _
      have HRA := hide (show (wr.alloc (.cells #[] 47)).ownsRow wr.heap.size 47 2 (.slice (some ⟨wr.heap.size, 0, none⟩) 0 0) ([] : List It).length (cellsOf []) from (bfam_nil wr wr.heap.size (Nat.le_refl _)).1)
      have HFA := hide (bfam_below HF.out hqA)
      have HRU := hide (show (wr.alloc (.cells #[] 47)).ownsRow w2.heap.size 47 2 (.slice a7 bl.length k7) its.length (cellsOf its) from HFA.out.1)
      have HONE := hide (cells_ones (bfam_slices HF.out))
      have HLI := hide (show ([] : List It).length + its.length ≤ 1099511627776 by rw [HIL.out]; simp; omega)
      have HQA := hide hqA
      have zA := hqA.size
      have HL1 := hide (show its.length + 2 ≤ 1099511627776 by rw [HIL.out]; omega)
      clear hqA
      go_wp2_with (refine append_rows wr _ wr.heap.size w2.heap.size _ _ [] its rfl (.tmp 56) (.tmp 57) rfl rfl rfl HRA.out HRU.out HONE.out HLI.out zA HQA.out ?_)
      intro vR wB hrB hbB hkB
      try rw [List.nil_append] at hrB
      have zB := hbB.size
      have hqC : Below wB.heap.size wB (wB.alloc (.cells #[.int .u8 77, .slice none 0 0, .int .u8 78, .slice none 0 0] 47)) := (Below.refl _ _).alloc (Nat.le_refl _) _
      have HRC := hide (row_keepTy hrB (keepTy_below hqC 47))
      have HLT2 := hide (show (wB.alloc (.cells #[.int .u8 77, .slice none 0 0, .int .u8 78, .slice none 0 0] 47)).ownsRow wB.heap.size 47 2 (.slice (some ⟨wB.heap.size, 0, none⟩) 2 2) [x77, x78].length (cellsOf [x77, x78]) by
        have h := World.ownsRow_lit (base := wB.heap.size) (e := 47) (size := 2) wB #[.int .u8 77, .slice none 0 0, .int .u8 78, .slice none 0 0] 2 (Nat.le_refl _) (by simp [maxLen]) (by simp)
        exact h)
      have HON2 := hide (cells_ones (its := [x77, x78]) (by intro x hx; simp at hx; rcases hx with rfl | rfl <;> exact ⟨_, _, _, rfl⟩))
      have HBC := hide (hbB.trans (hqC.mono zB))
      have zC := HBC.out.size
      clear hrB hbB hkB hqC HRA HFA HRU
      go_wp2_with (refine append_rows wr _ wr.heap.size wB.heap.size _ _ its [x77, x78] rfl (.tmp 58) (.tmp 61) rfl rfl rfl HRC.out HLT2.out HON2.out (by exact HL1.out) zC HBC.out ?_)
      intro vS wD hrD hbD _
      have hl2 : its.length + 2 = bl.length + 2 := by rw [HIL.out]
      rw [hl2] at hrD
      obtain ⟨gR, cR, rfl⟩ := Joins.ownsRow_form hrD (by omega)
      have hcR : bl.length + 2 ≤ cR ∧ gR < wD.heap.size ∧ wr.heap.size ≤ gR := by
        rcases hrD.2 with ⟨h, _⟩ | ⟨g', cap', cur, hv', hb', hh', hn', _⟩
        · simp at h
        · simp only [Value.slice.injEq, Option.some.injEq, Addr.mk.injEq] at hv'
          obtain ⟨⟨rfl, _⟩, _, rfl⟩ := hv'
          exact ⟨hn', heap_lt hh', hb'⟩
      have HRD := hide hrD
      have HBD := hide (HB3.out.trans (hbD.mono zr))
      have zD := HBD.out.size
      have zrD := hbD.size
      have HFD := hide (bfam_below HF.out hbD)
      have HHD := hide (show HOwn wD w2.heap.size (.slice a8 bl.length k8) vs from row_keepTy HH.out (keepTy_below hbD 25))
      have HFUD := hide (full_keepTy HFU.out (keepTy_below hbD 5))
      have HWD := hide (own_keep HW3.out hbD)
      have hroom := hrD
      rw [cellsOf_app] at hroom
      have hrt := row_trunc (n := bl.length) (m := 2) hroom (by have h := HF.out.1.1; rw [HIL.out] at h; exact h)
      have HRT := hide hrt
      have hbf : BFam wD w2.heap.size (.slice (some ⟨gR, 0, none⟩) bl.length cR) its := ⟨row_mono (by rw [HIL.out]; exact hrt) (by have := HB.out.size; omega), HFD.out.2.1, HFD.out.2.2⟩
      have HXR := hide (show Blocks wD (.slice (some ⟨gR, 0, none⟩) bl.length cR) bl by have h := bown_blocks (bfam_bown hbf); rw [HBL.out] at h; exact h)
      have i1 : (bl.length : Int) ≤ (cR : Int) := by omega
      have i2 : cR ≠ 0 := by omega
      have i3 : bl.length ≤ cR := by omega
      have PK : ∀ (W : World) (v : Value) (bs : List Bl), Below w.heap.size w W → Blocks W v bs → tot bs ≤ 15728640 → Calls Tryd.prog 33 #[.int .u8 kind, v] W (PackOutF W (E 0) kind bs) := by
        intro W v bs hb hx hts
        have := hb.size
        exact packf_any W (zip_below HZ.out hb (by omega)) (seal_below HS.out hb (by omega)) (E 0) (err_below (HE.out.cell 0 (by decide)) hb (by omega)) (by omega) kind hk HK0.out v bs hx (by omega)
      have HPK := hide PK
      have HP1 := hide (HPK.out wD _ bl HBD.out HXR.out (by omega))
      clear hrD hbD hl2 hroom hrt hbf PK HF HH HFU HRC HLT2 HBC HW3 HQA
      go_wp2_with fail
      refine HP1.out.mono ?_
      rintro e wE ⟨hbE, hcase⟩
      have hcase2 : ∃ g, e = .returned (.tuple #[.slice (some ⟨g, 0, none⟩) (img kind bl).length (img kind bl).length, .nilIface]) ∧ wE.heap[g]? = some (.cells (u8s (img kind bl)).toArray 5 (0, 0)) ∧ wD.heap.size ≤ g := by
        rcases hcase with ⟨⟨x, hx, hx0⟩, _⟩ | ⟨_, h⟩
        · exact absurd hx0 (HNZ.out x hx)
        · exact h
      obtain ⟨g1, rfl, hh1, hg1⟩ := hcase2
      rw [HIM.out] at hh1 ⊢
      rw [HNB.out]
      have hg1l := heap_lt hh1
      have HA1 := hide (show Own wE wD.heap.size (.slice (some ⟨g1, 0, none⟩) N N) im by have h := own_block hh1 hg1 (by rw [HNB.out]; omega); rwa [HNB.out] at h)
      have HBE := hide (HBD.out.trans (hbE.mono zD))
      have zE := HBE.out.size
      have zDE := hbE.size
      have HXE := hide (blocks_keep HXR.out hbE)
      have HP2 := hide (HPK.out wE _ bl HBE.out HXE.out (by omega))
      have HFE := hide (bfam_below HFD.out hbE)
      have HHE := hide (show HOwn wE w2.heap.size (.slice a8 bl.length k8) vs from row_keepTy HHD.out (keepTy_below hbE 25))
      have HFUE := hide (full_keepTy HFUD.out (keepTy_below hbE 5))
      have HWE := hide (own_keep HWD.out hbE)
      have HRE := hide (row_keepTy HRD.out (keepTy_below hbE 47))
      clear hcase hbE hh1 HP1 HFD HHD HFUD HWD HRD HXR
      go_wp2_with fail
      refine HP2.out.mono ?_
      rintro e wF ⟨hbF, hcase⟩
      have hcase2 : ∃ g, e = .returned (.tuple #[.slice (some ⟨g, 0, none⟩) (img kind bl).length (img kind bl).length, .nilIface]) ∧ wF.heap[g]? = some (.cells (u8s (img kind bl)).toArray 5 (0, 0)) ∧ wE.heap.size ≤ g := by
        rcases hcase with ⟨⟨x, hx, hx0⟩, _⟩ | ⟨_, h⟩
        · exact absurd hx0 (HNZ.out x hx)
        · exact h
      obtain ⟨g2, rfl, hh2, hg2⟩ := hcase2
      rw [HIM.out] at hh2 ⊢
      rw [HNB.out]
      have hg2l := heap_lt hh2
      have HA2 := hide (show Own wF wE.heap.size (.slice (some ⟨g2, 0, none⟩) N N) im by have h := own_block hh2 hg2 (by rw [HNB.out]; omega); rwa [HNB.out] at h)
      have HBF := hide (HBE.out.trans (hbF.mono zE))
      have zF := HBF.out.size
      have zEF := hbF.size
      have HA1F := hide (own_keep HA1.out hbF)
      have HFF := hide (bfam_below HFE.out hbF)
      have HHF := hide (show HOwn wF w2.heap.size (.slice a8 bl.length k8) vs from row_keepTy HHE.out (keepTy_below hbF 25))
      have HFUF := hide (full_keepTy HFUE.out (keepTy_below hbF 5))
      have HWF := hide (own_keep HWE.out hbF)
      have HRF := hide (row_keepTy HRE.out (keepTy_below hbF 47))
      clear hcase hbF hh2 HP2 HFE HHE HFUE HWE HRE HXE HA1
      have hs1 := src_string (own_src HA1F.out HLT.out)
      have hs2 := src_string (own_src HA2.out HLT.out)
      have hs3 := src_string (own_src HWF.out HLT.out)
      generalize bstr im = X at hs1 hs2 hs3
      go_wp2_with fail
      clear hs1 hs2 hs3
      go_loopw [103] (fun c wx => ∃ i q : Nat, i ≤ bl.length ∧ c = .int .i64 i ∧ wx = wF.drewN q) (fun c _ => bl.length - (intOf c).toNat)
      case atStart => exact ⟨0, 0, by omega, rfl, rfl⟩
      case round =>
        obtain ⟨i, q, hi, rfl, rfl⟩ := hrel
        by_cases hlt2 : i < bl.length
        · have hi1 : (i : Int) < (bl.length : Int) := by omega
          obtain ⟨x, hx⟩ : ∃ x, bl[i]? = some x := ⟨_, List.getElem?_eq_getElem hlt2⟩
          obtain ⟨y, hy⟩ : ∃ y, its[i]? = some y := ⟨_, List.getElem?_eq_getElem (by rw [HIL.out]; exact hlt2)⟩
          have hxy : x = (y.1, y.2.2) := by
            have h := hx
            rw [← HBL.out, blOf, List.getElem?_map, hy] at h
            simp at h
            exact h.symm
          subst hxy
          obtain ⟨g, hg1', hg2', hg3'⟩ := HFUF.out i y hy
          obtain ⟨g8, c8, hform⟩ : ∃ g c, Value.slice a8 bl.length k8 = .slice (some ⟨g, 0, none⟩) bl.length c := by
            rcases HHF.out.2 with ⟨h, h0⟩ | ⟨g, c, cur, h, _⟩
            · have := HVL.out; omega
            · simp only [HVL.out] at h
              exact ⟨g, c, h⟩
          simp only [Value.slice.injEq, true_and] at hform
          obtain ⟨rfl, rfl⟩ := hform
          have f0 := World.ownsRow.cells HHF.out (g := g8) rfl i _ hg2'
          rw [Addr.add_lit, Nat.zero_add] at f0
          obtain ⟨ad, bv, rfl, d0, d1, hsb⟩ := blocks_get (blocks_keep HV.out HBF.out) hx
          obtain ⟨e0, _⟩ := cellsOf_get (its ++ [x77, x78]) i y (by rw [List.getElem?_append_left (by rw [HIL.out]; exact hlt2)]; exact hy)
          have r0 := World.ownsRow.cells HRF.out (g := gR) rfl _ _ e0
          rw [Addr.add_lit, Nat.zero_add, Nat.mul_comm] at r0
          have HKP := hide (fun q' => kept_any (wF.drewN q |>.drewN q') g bv y.2.2 hg3' (src_drew (src_drew hsb q) q') (by have := get_tot (List.mem_of_getElem? hx); simp only at this; omega))
          obtain ⟨ab, cb, rfl⟩ := src_form hsb
          have f0' : (wF.drewN q).cell? ⟨g8, i, none⟩ = some (.slice (some ⟨g, 0, none⟩) (y.2.2.length + 80) (y.2.2.length + 80)) := f0
          have d0' : (wF.drewN q).cell? (ad.add (i * 2)) = some (.int .u8 (y.1 : Nat)) := d0
          have d1' : (wF.drewN q).cell? ⟨(ad.add (i * 2)).block, (ad.add (i * 2)).off + 1, none⟩ = some (.slice ab y.2.2.length cb) := d1
          have r0' : (wF.drewN q).cell? ⟨gR, i * 2, none⟩ = some (.int .u8 (y.1 : Nat)) := r0
          have i4 : (i : Int) < (bl.length : Int) + 2 := by omega
          have i5 : i < bl.length + 2 := by omega
          obtain ⟨t, htt⟩ : ∃ t, y.1 = t := ⟨_, rfl⟩
          obtain ⟨m, hm⟩ : ∃ m, y.2.2.length = m := ⟨_, rfl⟩
          rw [htt] at d0' r0'
          rw [hm] at f0' d1' HKP
          clear hx hy hg1' hg2' hg3' f0 d0 d1 e0 r0 hsb htt hm
          generalize hwq : wF.drewN q = wq at f0' d0' d1' r0' HKP ⊢
          have HWQ := hide hwq
          clear hwq
          go_wp2_with fail
          go_quiet (first | (go_at_call 39; exact Calls.quiet_of (HKP.out _)))
          go_wp2_with fail
          exact ⟨⟨i + 1, q + nq, by omega, by simp, by rw [← HWQ.out, World.drewN_drewN]⟩, by simp [intOf]; omega⟩
        · obtain rfl : i = bl.length := by omega
          have hbq := below_drewN (Below.refl wF.heap.size wF) q
          have HBG := hide (HBF.out.trans (hbq.mono zF))
          have HFG := hide (bfam_below HFF.out hbq)
          have HA1G := hide (own_keep HA1F.out hbq)
          have HA2G := hide (own_keep HA2.out hbq)
          have hrG := row_keepTy HRF.out (keepTy_below hbq 47)
          have zFG : wF.heap.size ≤ (wF.drewN q).heap.size := Nat.le_refl _
          have gx : ∀ j x, (cellsOf (its ++ [x77, x78]))[j]? = some x → (wF.drewN q).cell? ⟨gR, j, none⟩ = some x := fun j x hj => (row_cells hrG j x hj).1
          have hcl : (cellsOf its).length = bl.length * 2 := by have h := HFF.out.1.1; rw [HIL.out] at h; exact h
          have r0 := gx (bl.length * 2) (.int .u8 77) (by rw [cellsOf_app, List.getElem?_append_right (by omega), hcl, Nat.sub_self]; rfl)
          have r1 := gx (bl.length * 2 + 1) (.slice none 0 0) (by rw [cellsOf_app, List.getElem?_append_right (by omega), hcl, Nat.add_sub_cancel_left]; rfl)
          have r2 := gx ((bl.length + 1) * 2) (.int .u8 78) (by rw [cellsOf_app, List.getElem?_append_right (by omega), hcl, show (bl.length + 1) * 2 - bl.length * 2 = 2 by omega]; rfl)
          have i4 : (bl.length : Int) < (bl.length : Int) + 2 := by omega
          have i6 : (bl.length : Int) + 1 < (bl.length : Int) + 2 := by omega
          clear hbq hrG gx hcl HFF HHF HFUF HWF HA1F HA2 HRF HBF
          generalize wF.drewN q = wG at *
          have zG := HBG.out.size
          have HBD2 := hide (bodies_any wG w2.heap.size _ its HFG.out.1 (bfam_slices HFG.out) (by rw [HIL.out]; omega))
          go_wp2_with fail
          refine HBD2.out.mono ?_
          rintro e wH ⟨vH, rfl, hH0, hbH⟩
          obtain ⟨aH, kH, rfl⟩ := row_shape hH0
          rw [List.length_map] at hH0 ⊢
          have zGH := hbH.size
          obtain ⟨rows, hrows⟩ : ∃ rows, rwOf its ++ [(Value.slice (some ⟨g1, 0, none⟩) N N, im), (Value.slice (some ⟨g2, 0, none⟩) N N, im)] = rows := ⟨_, rfl⟩
          have hfst : its.map (·.2.1) ++ [Value.slice (some ⟨g1, 0, none⟩) N N, Value.slice (some ⟨g2, 0, none⟩) N N] = rows.map (·.1) := by rw [← hrows, List.map_append, rwOf_fst]; rfl
          have hrl : rows.length = bl.length + 2 := by
            rw [← hrows]
            simp only [List.length_append, rwOf, List.length_map, List.length_cons, List.length_nil, HIL.out]
          have hq : Below wH.heap.size wH (wH.alloc (.cells #[.slice (some ⟨g1, 0, none⟩) N N, .slice (some ⟨g2, 0, none⟩) N N] 25)) := (Below.refl _ _).alloc (Nat.le_refl _) _
          have HQ := hide (show HOwn _ _ _ _ from row_keepTy hH0 (keepTy_below hq 25))
          have HQB := hide (hbH.trans (hq.mono zGH))
          have hnw : ∀ (j : Nat) (u : Value), [Value.slice (some ⟨g1, 0, none⟩) N N, Value.slice (some ⟨g2, 0, none⟩) N N][j]? = some u → (wH.alloc (.cells #[.slice (some ⟨g1, 0, none⟩) N N, .slice (some ⟨g2, 0, none⟩) N N] 25)).cell? ((⟨wH.heap.size, 0, none⟩ : Addr).add j) = some u := by
            intro j u hj
            rw [Addr.add_lit, Nat.zero_add, cell_at (heap_new (w := wH) rfl _)]
            simpa using hj
          have HNW := hide hnw
          have HL3 := hide (show (its.map (fun (z : It) => z.2.1)).length + 2 ≤ 2199023255552 by rw [List.length_map, HIL.out]; omega)
          have hql : wG.heap.size ≤ (wH.alloc (.cells #[.slice (some ⟨g1, 0, none⟩) N N, .slice (some ⟨g2, 0, none⟩) N N] 25)).heap.size := HQB.out.size
          have HROWS := hide hrows
          have HFST := hide hfst
          have HRL := hide hrl
          clear hrows hfst hrl hq hH0 hbH HBD2 hnw
          go_wp2_with (refine append_heads wG _ wG.heap.size (.slice aH its.length kH) (its.map (·.2.1)) [.slice (some ⟨g1, 0, none⟩) N N, .slice (some ⟨g2, 0, none⟩) N N] rfl (.tmp 159) (.tmp 162) rfl rfl ⟨wH.heap.size, 0, none⟩ 2 2 rfl rfl HQ.out HNW.out (by simp [Value.oneCell']) HL3.out hql HQB.out ?_)
          intro v10 w10 ho10 hb10 _
          rw [HFST.out] at ho10
          obtain ⟨L, cL, rfl, hH, hc1, hc2, hLB⟩ := hown_heads ho10 (by rw [List.length_map, HRL.out]; omega)
          rw [List.length_map] at hc1 ⊢
          have HB10 := hide (HBG.out.trans (hb10.mono zG))
          have z10 := HB10.out.size
          have zG10 := hb10.size
          have f1 : Fam w10 w2.heap.size (rwOf its) := fam_keep HFG.out.2.2 hb10
          have f2 := fam_one (own_keep HA1G.out hb10) HLT.out
          have f3 := fam_one (own_keep HA2G.out hb10) HLT.out
          have zwD : w2.heap.size ≤ wD.heap.size := by have := HB.out.size; omega
          have hlow : ∀ r ∈ rwOf its, ∀ g, r.1.ownBlock = some g → g < wD.heap.size := fun r hr g hgg => by
            have h := (fam_at HFLOW.out hr hgg).2
            omega
          have f23 : Fam w10 wD.heap.size ([(Value.slice (some ⟨g1, 0, none⟩) N N, im)] ++ [(Value.slice (some ⟨g2, 0, none⟩) N N, im)]) := fam_both f2 f3 (by omega) (fun r hr g hgg => by
            rw [List.mem_singleton] at hr
            subst hr
            simp only [Value.ownBlock, Option.some.injEq] at hgg
            omega)
          have hF : Fam w10 w2.heap.size rows := by
            rw [← HROWS.out]
            exact fam_both f1 f23 zwD hlow
          have hl10 : ∀ (k : Nat) (r : Rw), rows[k]? = some r → r.2.length ≤ 140737488355000 := by
            intro k r hr
            have hm := List.mem_of_getElem? hr
            rw [← HROWS.out] at hm
            rcases List.mem_append.1 hm with hm | hm
            · obtain ⟨t, ht⟩ := rw_body HBL.out hm
              have := get_tot ht
              simp only at this
              omega
            · simp only [List.mem_cons, List.not_mem_nil, or_false] at hm
              have := HNB.out
              rcases hm with rfl | rfl <;> (simp only; omega)
          have HOW := hide (own_any w10 w2.heap.size L rows.length cL rows rfl (by rw [HRL.out]; omega) (by rw [HRL.out]; omega) hc1 hc2 hH hF (by omega) hl10)
          have HFK := hide (bfam_below HFG.out hb10)
          have HFAM := hide hF
          clear ho10 hH hF hl10 f1 f2 f3 f23 hlow hc1 hc2 hLB HQ HQB HNW HL3 hql HFST hb10
          go_wp2_with fail
          refine HOW.out.mono ?_
          rintro e w11 ⟨rfl, hown, hfoot⟩
          have hb11 := foot_below hfoot HFAM.out (by omega : w2.heap.size ≤ w10.heap.size)
          have HB11 := hide (HB10.out.trans (hb11.mono z2))
          have z11 := HB11.out.size
          have cells : ∀ (k : Nat) (o : Obj), w10.heap[k]? = some o → (∀ cs, o ≠ .cells cs 5 (0, 0)) → w11.heap[k]? = some o := fun k o ho hn =>
            (hfoot.block k (heap_lt ho) (fun hr => by obtain ⟨cs, hc⟩ := inrows_cells HFAM.out hr; rw [hc] at ho; exact hn cs (Option.some.inj ho).symm)).trans ho
          have hfm : BFam w11 w2.heap.size (.slice a7 bl.length k7) (mkIts 0 its) := bfam_marked HFK.out (row_keepTy HFK.out.1 (fun k cs fr h => cells k _ h (by simp))) 0 (fun j x hj => by
            rw [Nat.zero_add, ← HROWS.out, List.getElem?_append_left (by rw [rwOf, List.length_map]; exact (List.getElem?_eq_some_iff.1 hj).1), rwOf, List.getElem?_map, hj]
            rfl) hown
          obtain ⟨bm, hbm⟩ : ∃ bm, blOf (mkIts 0 its) = bm := ⟨_, rfl⟩
          have hbml : bm.length = bl.length := by rw [← hbm, mk_tags, HIL.out]
          have hbmt : tot bm = tot bl := by rw [← hbm, mk_tot, HBL.out]
          have hbmo : ∀ x ∈ bm, x.1 ≠ 0 ∧ x.1 < 256 ∧ (∀ y ∈ x.2, y < 256) ∧ x.2.length < 18446744073709551616 := by rw [← hbm]; exact mk_ok 0 (by rw [HBL.out]; exact HOK.out)
          have hxm : Blocks w11 (.slice a7 bl.length k7) bm := by have h := bown_blocks (bfam_bown hfm); rw [hbm] at h; exact h
          have himl2 := img_len kind bm
          have himlt2 := img_lt (kind := kind) (bl := bm) hk (by rw [Uv.u64_eq]; omega) (fun x hx => by have h := hbmo x hx; rw [Uv.u64_eq]; exact h.2)
          have HXM := hide hxm
          have HBMT := hide hbmt
          have HBML := hide hbml
          have HBMO := hide hbmo
          have HP3 := hide (HPK.out w11 _ bm HB11.out hxm (by omega))
          obtain ⟨im3, him3⟩ : ∃ im, img kind bm = im := ⟨_, rfl⟩
          rw [him3] at himl2 himlt2
          have HIM3 := hide him3
          have HLT3 := hide himlt2
          obtain ⟨N3, hN3⟩ : ∃ N, im3.length = N := ⟨_, rfl⟩
          rw [hN3, hbmt] at himl2
          have HN3 := hide hN3
          clear hown hfoot hb11 cells hfm hbm hbml hbmt hbmo hxm HFAM HOW HFK HFG HA1G HA2G HROWS HRL r0 r1 r2 him3 himlt2 hN3
          go_wp2_with fail
          refine HP3.out.mono ?_
          rintro e w12 ⟨hb12, hcase⟩
          have hcase2 : ∃ g, e = .returned (.tuple #[.slice (some ⟨g, 0, none⟩) (img kind bm).length (img kind bm).length, .nilIface]) ∧ w12.heap[g]? = some (.cells (u8s (img kind bm)).toArray 5 (0, 0)) ∧ w11.heap.size ≤ g := by
            rcases hcase with ⟨⟨x, hx, hx0⟩, _⟩ | ⟨_, h⟩
            · exact absurd hx0 (HBMO.out x hx).1
            · exact h
          obtain ⟨g3, rfl, hh3, hg3⟩ := hcase2
          rw [HIM3.out] at hh3 ⊢
          rw [HN3.out]
          have HA3 := hide (show Own w12 w11.heap.size (.slice (some ⟨g3, 0, none⟩) N3 N3) im3 by have h := own_block hh3 hg3 (by rw [HN3.out]; omega); rwa [HN3.out] at h)
          have HB12 := hide (HB11.out.trans (hb12.mono z11))
          have z12 := HB12.out.size
          have HX12 := hide (blocks_keep HXM.out hb12)
          have HRP := hide (ref_pack_any w12 kind hk HK0.out _ bm HX12.out (by rw [HBMT.out]; omega))
          clear hcase hb12 hh3 HP3 HXM
          go_wp2_with fail
          refine HRP.out.mono ?_
          rintro e w13 ⟨hb13, hcase⟩
          have hcase2 : ∃ v, e = .returned (.tuple #[v, .int .i64 0]) ∧ Own w13 w12.heap.size v (img kind bm) := by
            rcases hcase with ⟨⟨x, hx, hx0⟩, _⟩ | ⟨_, h⟩
            · exact absurd hx0 (HBMO.out x hx).1
            · exact h
          obtain ⟨vw3, rfl, how⟩ := hcase2
          rw [HIM3.out] at how
          obtain ⟨aw3, cw3, rfl⟩ := row_shape how
          rw [HN3.out] at how ⊢
          have HW13 := hide how
          have HB13 := hide (HB12.out.trans (hb13.mono z12))
          have z13 := HB13.out.size
          have HX13 := hide (blocks_keep HX12.out hb13)
          have HA13 := hide (own_keep HA3.out hb13)
          have hs1 := src_string (own_src HA13.out HLT3.out)
          have hs2 := src_string (own_src HW13.out HLT3.out)
          generalize bstr im3 = X3 at hs1 hs2
          have HCP := hide (copied_any w13 _ bm HX13.out (fun x hx => ⟨(HBMO.out x hx).2.1, (HBMO.out x hx).2.2.1, by have := get_tot hx; have := HBMT.out; omega⟩) (by rw [HBML.out]; omega))
          clear hcase hb13 how HRP HX12 HA3
          go_wp2_with fail
          clear hs1 hs2
          refine HCP.out.mono ?_
          rintro e w14 ⟨vc, itsC, rfl, hblC, hfC, hb14⟩
          have HB14 := hide (HB13.out.trans (hb14.mono z13))
          have z14 := HB14.out.size
          have HXC := hide (show Blocks w14 vc bm by have h := bown_blocks (bfam_bown hfC); rw [hblC] at h; exact h)
          have HI14 := hide (src_keep (own_src HW13.out HLT3.out) hb14)
          have HOP := hide (opened_any w14 (zip_below HZ.out HB14.out (by omega)) (seal_below HS.out HB14.out (by omega)) E (err_below (HE.out.cell 0 (by decide)) HB14.out (by omega)) (err_below (HE.out.cell 1 (by decide)) HB14.out (by omega)) (err_below (HE.out.cell 2 (by decide)) HB14.out (by omega)) (err_below HE5.out HB14.out (by omega)) (err_below (HE.out.cell 6 (by decide)) HB14.out (by omega)) (by omega) kind hk HK0.out vc bm HXC.out HBMO.out (by rw [HBMT.out]; omega) (.slice aw3 N3 cw3) (by rw [HIM3.out]; exact HI14.out))
          clear hblC hfC hb14 HCP
          go_wp2_with fail
          refine HOP.out.mono ?_
          rintro e w15 ⟨rfl, hb15⟩
          have HB15 := hide (HB14.out.trans (hb15.mono z14))
          clear hb15
          go_wp2_with fail
          go_ret
          exact ⟨rfl, HB15.out⟩

set_option maxRecDepth 100000 in
set_option maxHeartbeats 4000000 in
theorem walk (w : World) (Z : Zip w) (S : SealT w) (E : Nat → Addr) (hE : Errs w E dErrs) (hE5 : ErrAt w 5 (E 5)) (hg : 17 ≤ w.heap.size) (kind : Nat) (hk : kind < 256) (v : Value) (bl : List Bl) (hv : Blocks w v bl) (ht : tot bl ≤ 15728640) :
    Calls Tryd.prog 20 #[.int .u8 kind, v] w fun e w' => e = .returned (.bool true) ∧ Below w.heap.size w w' := by
  by_cases hk0 : kind = 0
  · subst hk0
    obtain ⟨ao, cap, rfl⟩ := blocks_form' hv
    have HZ := hide Z
    clear Z S hE hE5 hv
    go_enter Tryd.func20, Tryd.ntmps20
    go_wp2_with fail
    refine (lives_any w HZ.out (by omega)).mono ?_
    rintro e w1 ⟨rfl, hb1⟩
    have HB1 := hide hb1
    clear hb1
    go_wp2_with fail
    refine (ref_pack_zero w1 ao bl.length cap).mono ?_
    rintro e w2 ⟨rfl, rfl⟩
    go_wp2_with fail
    go_ret
    exact ⟨rfl, HB1.out⟩
  · by_cases hnz : ∀ x ∈ bl, x.1 ≠ 0
    · exact walk_pos w Z S E hE hE5 hg kind hk hk0 v bl hv hnz ht
    · obtain ⟨ao, cap, rfl⟩ := blocks_form' hv
      have HZ := hide Z
      have HV := hide hv
      have HN := hide hnz
      have hlen := len_tot bl
      clear Z S hE hE5 hv hnz
      go_enter Tryd.func20, Tryd.ntmps20
      go_wp2_with fail
      refine (lives_any w HZ.out (by omega)).mono ?_
      rintro e w1 ⟨rfl, hb1⟩
      have HB1 := hide hb1
      have z1 := hb1.size
      clear hb1
      have HRP := hide (ref_pack_any w1 kind hk hk0 _ bl (blocks_keep HV.out HB1.out) (by omega))
      go_wp2_with fail
      refine HRP.out.mono ?_
      rintro e w2 ⟨hb2, hcase⟩
      have hcase2 : e = .returned (.tuple #[.slice none 0 0, .int .i64 6]) := by
        rcases hcase with ⟨_, h⟩ | ⟨h, _⟩
        · exact h
        · exact absurd h HN.out
      subst hcase2
      have HB2 := hide (HB1.out.trans (hb2.mono z1))
      clear hb2 hcase HRP
      go_wp2_with fail
      go_ret
      exact ⟨rfl, HB2.out⟩

/-! the frame, by program -/
set_option maxRecDepth 100000 in
theorem contract (H : Type) (enc : TypeId × Value → H) (W : World) (base : Nat) (args : Array Value) (ds gs : List (DataW H)) (before : List MemPlace)
    (hval : ∀ (j : Nat) t v, Tryd.f20.params[j]? = some t → args[j]? = some v → Value.okWide Tryd.prog W .any base t v)
    (hW : DataW.Whole enc Tryd.prog Tryd.f20.params.toList Rows.frameOwnsImageSpec.vars false W args.toList ds gs before) (hL : laidMetH Tryd.prog Rows.frameOwnsImageRow.laid W)
    (hsz : (DataW.weightsEach Tryd.prog (Tryd.f20.params.toList ++ []) (ds ++ gs)).all (· ≤ reachBytes) = true) (hk : Rows.uptoSmall H (ds ++ gs) = true) :
    Calls Tryd.prog 20 args W fun e W' => ∃ v, e = .returned v ∧ Rows.frameOwnsImageSpec.post enc Tryd.prog Tryd.f20 false true false false W args v W' := by
  have hW' := hW
  obtain ⟨p, q, hA0, hV, rfl, hfz, hnd⟩ := hW
  have hA : DataW.TrodAll enc Tryd.prog W 0 (fun _ => true) true Tryd.f20.params.toList args.toList ds p := hA0
  rw [Tryd.params20] at hA hval hsz
  obtain ⟨v0, vs0, d0, ds0, p0, q0, hargs, rfl, rfl, h0, r0⟩ := trodAll_cons hA
  obtain ⟨v1, vs1, d1, ds1, p1, q1, rfl, rfl, rfl, h1, r1⟩ := trodAll_cons r0
  obtain ⟨rfl, rfl, rfl⟩ := trodAll_nil r1
  obtain rfl : args = #[v0, v1] := by cases args; simp_all
  obtain ⟨rfl, rfl⟩ := trodVars_none hV
  obtain ⟨x0, rfl, rfl, rfl, w0⟩ := open_int Tryd.underlying5 (hval 0 5 v0 rfl rfl) h0
  obtain ⟨l0, u0⟩ := bounds_u8 w0
  obtain ⟨n0, rfl⟩ := Int.eq_ofNat_of_zero_le l0
  obtain ⟨b1, s1, g1⟩ := open_blocks (hval 1 38 v1 rfl rfl) h1
  have e1 := small_tot hk (j := 1) rfl g1
  clear hA0
  simp only [List.append_nil] at hW'
  have hl : laidMet Tryd.prog Rows.frameOwnsImageRow.laid W := hL
  obtain ⟨Z, hg⟩ := zip_of_mem hl (by simp [Rows.frameOwnsImageRow])
  have hS := seal_of_mem hl (by simp [Rows.frameOwnsImageRow])
  have hreads : ∀ g ∈ ([0, 1, 2, 5, 6] : List Nat), ErrRead W g := by
    intro g hg
    simp only [List.mem_cons, List.not_mem_nil, or_false] at hg
    rcases hg with rfl | rfl | rfl | rfl | rfl
    · exact read0 hl (by simp [Rows.frameOwnsImageRow])
    · exact read1 hl (by simp [Rows.frameOwnsImageRow])
    · exact read2 hl (by simp [Rows.frameOwnsImageRow])
    · exact read5 hl (by simp [Rows.frameOwnsImageRow])
    · exact read6 hl (by simp [Rows.frameOwnsImageRow])
  obtain ⟨E, hE⟩ := errs_of_reads hreads (by decide +kernel)
  have hg2 := World.block_lt_of_cell? W _ (hE.cell 6 (by decide))
  simp only at hg2
  refine (walk W Z hS E (hE.mono (by decide)) (hE.cell 5 (by decide)) (by omega) n0 (by omega) _ b1 s1 (by omega)).mono fun e W' ⟨he, hb⟩ => ?_
  subst he
  exact ⟨_, rfl, law_post hW' rfl rfl rfl (by kernel_rfl) hb⟩

noncomputable def laidWorld (os : Os) : World := World.doorLaid Tryd.prog 475 os
noncomputable def wargs : Array Value := #[.int .u8 0, .slice none 0 0]
theorem laid_met (os : Os) : laidMetH Tryd.prog Rows.frameOwnsImageRow.laid ((laidWorld os).forCall (fun _ _ => 0) ⟨#[], wargs, []⟩).memory :=
  laidMetH_of_parts3 (fuel := 8) (laidMet_of_run' 8 (by kernel_rfl) (by kernel_rfl)) (by kernel_rfl) (by kernel_rfl)
theorem reads (os : Os) {H : Type} (enc : TypeId × Value → H) : ∃ places, DataW.whole enc Tryd.prog ((laidWorld os).forCall (fun _ _ => 0) ⟨#[], wargs, []⟩).memory Tryd.f20.params.toList Rows.frameOwnsImageSpec.vars false wargs.toList 8 = some ([.lit (.int .u8 0), .nil], [], places) :=
  ⟨[], by kernel_rfl⟩

set_option maxRecDepth 100000 in
theorem lifted (os : Os) (started : os.Started) (H : Type) (enc : TypeId × Value → H) (F : Stop.Interp) :
    ReturnsInHanded {} Tryd.checked os 20 .any ((Rows.OpenSpec.upto Rows.frameOwnsImageSpec).preRow enc Tryd.prog Tryd.f20 Rows.frameOwnsImageUptoRow.domain false Rows.frameOwnsImageUptoRow.laid) (((Rows.OpenSpec.upto Rows.frameOwnsImageSpec).at F).post enc Tryd.prog Tryd.f20 false true false false) := by
  obtain ⟨places, hx⟩ := reads os enc
  refine returnsInHanded_of_row (C := Tryd.checked) (s := Rows.OpenSpec.upto Rows.frameOwnsImageSpec) own started (by kernel_rfl) Tryd.func20
    (witness_row_atRef (enc := enc) (C := Tryd.checked) false (laidWorld os) wargs rfl (by kernel_rfl) (by kernel_rfl) (by kernel_rfl)
      (OpenSpec.preRow_of_cond 8 hx (by kernel_rfl) (fun k hk => by cases hk; kernel_rfl) (by kernel_rfl) (laid_met os))) ?_
  intro W base args ds gs before hval hW _ hcond hsz hL _ _
  exact contract H enc W base args ds gs before hval hW hL hsz (hcond _ rfl)

theorem fact0 : (Rows.frameOwnsImageUptoRow.wf (OpenSpec.ofChange (Rows.OpenSpec.upto Rows.frameOwnsImageSpec).bare)) = true := by kernel_rfl
theorem fact3 : (Tryd.f20.params.all (Tryd.prog.readableRec ·)) = true := by kernel_rfl
theorem fact4 : (namedTie Tryd.prog Rows.frameOwnsImageUptoRow.named (Rows.OpenSpec.upto Rows.frameOwnsImageSpec).bare.vars) = true := by kernel_rfl
theorem fact5 : ((Rows.frameOwnsImageUptoRow.stops == [])) = true := by kernel_rfl
theorem fact7 : ((Rows.frameOwnsImageUptoRow.knobs == [])) = true := by kernel_rfl
theorem fact9 : ((Rows.frameOwnsImageUptoRow.inPlace == Tryd.prog.inPlace 20)) = true := by kernel_rfl
theorem fact10 : ((Rows.frameOwnsImageUptoRow.unfollowed == Tryd.prog.unfollowed 20)) = true := by kernel_rfl
theorem fact11 : ((Rows.frameOwnsImageUptoRow.recurses == Tryd.prog.recurses 20)) = true := by kernel_rfl
theorem fact12 : ((Rows.frameOwnsImageUptoRow.named == Tryd.prog.varsNamed 20)) = true := by kernel_rfl
theorem fact13 : ((Rows.frameOwnsImageUptoRow.maps == (Tryd.f20.params.toList ++ (Rows.OpenSpec.upto Rows.frameOwnsImageSpec).bare.plain.varTypes Tryd.prog).any (Tryd.prog.mapsRec ·))) = true := by kernel_rfl
theorem fact14 : ((Rows.frameOwnsImageUptoRow.ifaces == (Tryd.f20.params.toList ++ (Rows.OpenSpec.upto Rows.frameOwnsImageSpec).bare.plain.varTypes Tryd.prog).any (Tryd.prog.ifacesRec ·))) = true := by kernel_rfl
theorem fact15 : ((Rows.frameOwnsImageUptoRow.mapsOut == Tryd.prog.mapsAmong Tryd.f20.resultTypes.toList)) = true := by kernel_rfl
theorem fact16 : ((Rows.frameOwnsImageUptoRow.loops == (Tryd.f20.params.toList ++ (Rows.OpenSpec.upto Rows.frameOwnsImageSpec).bare.plain.varTypes Tryd.prog).any (Tryd.prog.loopsFrom ·))) = true := by kernel_rfl
theorem fact17 : ((Rows.frameOwnsImageUptoRow.wideKeys == (Tryd.f20.params.toList ++ (Rows.OpenSpec.upto Rows.frameOwnsImageSpec).bare.plain.varTypes Tryd.prog ++ Tryd.f20.resultTypes.toList).any (Tryd.prog.wideKeysFrom ·))) = true := by kernel_rfl
theorem fact18 : ((Rows.OpenSpec.upto Rows.frameOwnsImageSpec).bare.vars.all (Tryd.prog.varReadable ·)) = true := by kernel_rfl
theorem fact19 : (Tryd.f20.resultTypes.all (fun t => Tryd.prog.readableRec t && decide (t < Tryd.prog.types.size))) = true := by kernel_rfl
theorem fact20 : ((Rows.frameOwnsImageUptoRow.ifacesOut == Tryd.f20.resultTypes.toList.any (Tryd.prog.ifacesRec ·))) = true := by kernel_rfl
theorem fact21 : ((Rows.frameOwnsImageUptoRow.loopsOut == Tryd.f20.resultTypes.toList.any (Tryd.prog.loopsFrom ·))) = true := by kernel_rfl
theorem fact22 : ((Rows.frameOwnsImageUptoRow.plainKeys == Tryd.prog.plainKeys)) = true := by rw [Tryd.keys]; kernel_rfl
theorem fact23 : (Rows.frameOwnsImageUptoRow.shortTexts.isNone) = true := by kernel_rfl
theorem fact26 : ((Rows.frameOwnsImageUptoRow.lifted == Tryd.prog.liftsFinal)) = true := by rw [Tryd.lifts]; kernel_rfl
theorem fact27 : ((Tryd.prog.make == some Rows.frameOwnsImageUptoRow.make)) = true := by rw [Tryd.makes]; kernel_rfl
theorem fact29 : ((Rows.frameOwnsImageUptoRow.pinned == Rows.frameOwnsImageUptoRow.pinnedBy)) = true := by kernel_rfl
theorem fact30 : ((Rows.frameOwnsImageUptoRow.veiled == (Tryd.f20.params.toList ++ (Rows.OpenSpec.upto Rows.frameOwnsImageSpec).bare.plain.varTypes Tryd.prog ++ Tryd.f20.resultTypes.toList).any (Tryd.prog.veiledRec ·))) = true := by kernel_rfl
theorem fact31 : (Rows.frameOwnsImageUptoRow.veiledFits Tryd.prog Tryd.f20.params.toList (Tryd.f20.params.toList ++ (Rows.OpenSpec.upto Rows.frameOwnsImageSpec).bare.plain.varTypes Tryd.prog ++ Tryd.f20.resultTypes.toList)) = true := by kernel_rfl
theorem closed : joinedFacts Tryd.prog 20 Tryd.f20 (Rows.OpenSpec.upto Rows.frameOwnsImageSpec).bare Rows.frameOwnsImageUptoRow = true :=
  facts_of fact0 Tryd.laidOut Tryd.rowed fact3 fact4 fact5 Tryd.noStops fact7 Tryd.noKnobs fact9 fact10 fact11 fact12 fact13 fact14 fact15 fact16 fact17 fact18 fact19 fact20 fact21 fact22 fact23 Tryd.heard Tryd.mayEnter fact26 fact27 (by kernel_rfl) fact29 fact30 fact31
theorem named : Tryd.prog.funcNamed Rows.frameOwnsImageUptoRow.func = some 20 := by kernel_rfl
theorem instanced : Tryd.f20.isInstance Tryd.prog Rows.frameOwnsImageUptoRow.origin Rows.frameOwnsImageUptoRow.targs := of_decide_eq_true (by kernel_rfl)
theorem wrapped : Tryd.f20.isWrapper Tryd.prog Rows.frameOwnsImageUptoRow.wrapper Rows.frameOwnsImageUptoRow.mainSum := by unfold Func.isWrapper; first | (rw [if_pos (by decide +kernel)]; kernel_rfl) | (rw [if_neg (by decide +kernel)]; exact ⟨rfl, rfl⟩)
theorem said : Rows.FrameOwnsImageUptoSaid :=
  OpenClaim.holds_of_cond 20 Tryd.f20 rfl rfl rfl rfl rfl rfl rfl ⟨rfl, rfl, rfl, rfl, rfl⟩ rfl rfl rfl rfl rfl named Tryd.func20 closed
    instanced wrapped
    (fun os started H enc _ F => by rw [OpenClaim.pre_eq_preRow]; exact lifted os started H enc F)

theorem plain (f : FuncId) (fn : Func) (hf : Tryd.pinned.checked.prog.funcNamed "concord/concordlaw02.FrameOwnsImage" = some f) (hfn : Tryd.pinned.checked.prog.funcs[f]? = some fn) :
    true = Tryd.pinned.checked.prog.looks [] ∧ ∀ (j : Nat) t, fn.params[j]? = some t → Tryd.pinned.checked.prog.wantsStandIn t = false := by
  obtain rfl : f = 20 := Option.some.inj ((show Tryd.prog.funcNamed "concord/concordlaw02.FrameOwnsImage" = some 20 by kernel_rfl).symm.trans hf) |>.symm
  obtain rfl : fn = Tryd.f20 := (Option.some.inj (Tryd.func20.symm.trans hfn)).symm
  have hall : Tryd.f20.params.toList.all (fun t => !Tryd.pinned.checked.prog.wantsStandIn t) = true := by kernel_rfl
  refine ⟨by kernel_rfl, fun j t ht => ?_⟩
  have := List.all_eq_true.1 hall t (by simpa using Array.mem_of_getElem? ht)
  simpa using this

/-- THE CARD -/
theorem card : Rows.FrameOwnsImageUptoCardSaid :=
  Claim7.holds_tied_plain_at .later [] _ _ _ _ said (fun _ h => by cases h) (by kernel_rfl) (fun _ h => by cases h) frameOwnsImageUpto_row_tie rfl ⟨rfl, rfl⟩ (by kernel_rfl) rfl plain (by kernel_rfl)
end Go.Proofs.YtgebekklkodpaaaDoor.frameOwnsImage
