/- Proved: for every list of blocks (up to the Upto row's bulk), FrameOwnsScan returns true (the bodies that Scan tells, and tells again, are lists of their own), and nothing that lay in memory ahead of the call has changed. Conditions: the package variables that the row lists (four errors, frame.zipTable) hold what their initialisers lay; the card ties that to the text. -/
import Derived.Test.YtgebekklkodpaaaDoorBs
import Derived.Test.YtgebekklkodpaaaDoorPk
import Derived.Test.YtgebekklkodpaaaDoorUpto
import Derived.Test.YtgebekklkodpaaaDoorTies
import Derived.Deep.DeepWitnessRowRef
import Derived.Test.YtgebekklkodpaaaDoorOpenBl
import Derived.Deep.DeepCutAuto
import Derived.Deep.RegionHeld3
namespace Go.Proofs.YtgebekklkodpaaaDoor.frameOwnsScan
open Go.ChangeShapes Go.WideShapes Go.ChangeAt Go.RowKit Go.Proofs.YtgebekklkodpaaaDoor
attribute [local go_sem] Oper.semAt_some

theorem take_succ' {bl : List Bl} {i : Nat} {x : Bl} (h : bl[i]? = some x) : bl.take (i + 1) = bl.take i ++ [x] := by
  rw [List.take_add_one, h]
  rfl
theorem encs_take {bl : List Bl} (i : Nat) : (encs (bl.take i)).length ≤ tot bl := Nat.le_trans (encs_len _) (tot_take bl i)
theorem len_encs (bl : List Bl) : bl.length ≤ (encs bl).length := by
  induction bl with
  | nil => simp
  | cons x r ih =>
    have := enc_length x.1 x.2
    simp only [encs, List.flatMap_cons, List.length_append, List.length_cons] at *
    omega
theorem scan_encs0 : ∀ (bl : List Bl) (f a : Nat), bl.length < f → (∀ x ∈ bl, x.1 ≠ 0 ∧ x.1 < 256 ∧ (∀ y ∈ x.2, y < 256) ∧ x.2.length < 18446744073709551616) → scan f a (encs bl) = (plcs a bl, bl)
  | [], f, a, hf, _ => by
    rw [scan_err f a _ 1 (by simp [encs, dec])]
    rfl
  | x :: r, f, a, hf, h => by
    obtain ⟨h0, h1, h2, h3⟩ := h x (by simp)
    obtain ⟨f', rfl⟩ : ∃ f', f = f' + 1 := ⟨f - 1, by simp at hf; omega⟩
    have he : encs (x :: r) = enc x.1 x.2 ++ encs r := by simp [encs]
    have hd := dec_enc x.1 x.2 (encs r) h0 h1 h2 h3
    have hlen := enc_length x.1 x.2
    rw [he, scan_ok f' a _ _ _ hd]
    have hj : 1 + (Uv.uv x.2.length).length + x.2.length + 4 = (enc x.1 x.2).length := hlen.symm
    rw [hj, List.drop_left, scan_encs0 r f' _ (by simp at hf; omega) (fun y hy => h y (by simp [hy]))]
    have e1 : (enc x.1 x.2 ++ encs r).getD 0 0 = x.1 := by simp [enc, encHead]
    have e2 : ((enc x.1 x.2 ++ encs r).take (1 + (Uv.uv x.2.length).length + x.2.length)).drop (1 + (Uv.uv x.2.length).length) = x.2 := by
      have e : enc x.1 x.2 ++ encs r = (([x.1] ++ Uv.uv x.2.length) ++ x.2) ++ (Uv.word (sum (encHead x.1 x.2)) ++ encs r) := by simp [enc, encHead]
      have hA : ([x.1] ++ Uv.uv x.2.length).length = 1 + (Uv.uv x.2.length).length := by simp; omega
      rw [e, List.take_left' (by simp; omega), List.drop_left' hA]
    rw [e1, e2]
    rfl
/-- what a loop has collected in box P; all that lay ahead of block L is as it was -/
structure Col (WL W : World) (L P : Nat) (pre : List Itm) : Prop where
  blks : ∃ ao cap, Boxed W P 38 (.slice ao pre.length cap) ∧ BFam W L (.slice ao pre.length cap) (pre.map (·.2))
  below : Below L WL W
theorem col_kept {WL W W' : World} {L P : Nat} {pre : List Itm} {row : Option Nat} (h : Col WL W L P pre) (hL : L ≤ WL.heap.size) (hg : W.grownBy W' row) (nt : ∀ t, NotTy W row t) (hr : ∀ r, row = some r → L ≤ r) : Col WL W' L P pre := by
  obtain ⟨a2, c2, b2, i2⟩ := h.blks
  exact ⟨⟨a2, c2, box_kept b2 hg (nt 38), bfam_kept i2 hg (nt 47) (nt 5)⟩, h.below.grown hg (Nat.le_trans hL h.below.size) hr⟩
theorem col_below {WL W W' : World} {L P : Nat} {pre : List Itm} (h : Col WL W L P pre) (hL : L ≤ WL.heap.size) (hb : Below W.heap.size W W') : Col WL W' L P pre :=
  col_kept h hL (grown_of_below hb) (fun _ => notTy_none _ _) (fun _ e => by cases e)
theorem col_lit (w : World) : Col w ((w.alloc (.cells #[] 47)).alloc (.cells #[.slice (some ⟨w.heap.size, 0, none⟩) 0 0] 38)) w.heap.size (w.heap.size + 1) [] := by
  have b := Boxed.new (w.alloc (.cells #[] 47)) 38 (.slice (some ⟨w.heap.size, 0, none⟩) 0 0)
  rw [World.size_alloc] at b
  exact ⟨⟨_, _, b, bfam_below (bfam_nil w w.heap.size (Nat.le_refl _)) ((Below.refl _ _).alloc (Nat.le_refl _) _)⟩, ((Below.refl w.heap.size w).alloc (Nat.le_refl _) _).alloc (by simp) _⟩
set_option maxRecDepth 100000 in
set_option maxHeartbeats 8000000 in
theorem walk (w : World) (Z : Zip w) (E : Nat → Addr) (hE : Errs w E dErrs) (hg : 17 ≤ w.heap.size) (v : Value) (bl : List Bl) (hv : Blocks w v bl) (hl : tot bl ≤ 15728640) :
    Calls Tryd.prog 15 #[v] w fun e w' => e = .returned (.bool true) ∧ Below w.heap.size w w' := by
  obtain ⟨ao, cap, rfl⟩ := blocks_form' hv
  have hlen := len_tot bl
  have hok : ∀ x ∈ bl, x.1 < 256 ∧ (∀ y ∈ x.2, y < 256) ∧ x.2.length < 18446744073709551616 := by
    obtain ⟨ao', cap', hvv, hBB⟩ := blocks_form hv
    exact blocks_ok hBB (by omega)
  have HOK := hide hok
  have HZ := hide Z
  have HE := hide hE
  have HV := hide hv
  clear Z hE hv hok
  refine (callsIn_wide (n := 9)).1 ?_
  refine callsIn_of_wp_marks Tryd.func15 rfl trivial ?_ rfl
  simp only [Tryd.ntmps15, List.size_toArray, List.length_cons, List.length_nil, Nat.reduceAdd, Nat.reduceSub, Array.replicate_succ, Array.replicate_zero, List.push_toArray, List.append_toArray, List.nil_append, List.cons_append]
  refine wpIn_wide.2 ?_
  go_wp2_with fail
  refine (lives_any w HZ.out (by omega)).mono ?_
  rintro e w1 ⟨rfl, hb1⟩
  have HB1 := hide hb1
  have z1 := hb1.size
  clear hb1
  have c1 : Own (w1.alloc (.cells #[] 5)) w.heap.size (.slice (some ⟨w1.heap.size, 0, none⟩) 0 0) (encs (bl.take 0)) := row_mono (own_lit w1 w1.heap.size [] (Nat.le_refl _) (by simp) #[] rfl) z1
  have C1 := hide c1
  have HBA := hide (HB1.out.alloc z1 (.cells #[] 5))
  clear c1
  go_wp2_with fail
  go_loopw [3, 26] (fun s3 c wr => ∃ i : Nat, i ≤ bl.length ∧ c = .int .i64 i ∧ Own wr w.heap.size s3 (encs (bl.take i)) ∧ (∀ x ∈ bl.take i, x.1 ≠ 0) ∧ Below w.heap.size w wr) (fun _ c _ => bl.length - (intOf c).toNat)
  case atStart => exact ⟨0, by omega, rfl, C1.out, by simp, HBA.out⟩
  case round =>
    obtain ⟨i, hi, rfl, ho, hno, hb⟩ := hrel
    have HO := hide ho
    have HN := hide hno
    have HB := hide hb
    have hsr := hb.size
    obtain ⟨a5, k5, rfl⟩ := row_shape ho
    clear ho hno hb
    by_cases hlt : i < bl.length
    · obtain ⟨x, hx⟩ : ∃ x, bl[i]? = some x := ⟨_, List.getElem?_eq_getElem hlt⟩
      obtain ⟨ad, bv, rfl, c0, c1, hs1⟩ := blocks_get (blocks_keep HV.out HB.out) hx
      have hi1 : (i : Int) < (bl.length : Int) := by omega
      have hxm := HOK.out x (List.mem_of_getElem? hx)
      have htk := take_succ' hx
      have hge := get_tot (List.mem_of_getElem? hx)
      have hq : Below wr.heap.size wr (wr.alloc (.cells #[.int .u8 (x.1 : Nat), bv] 47)) := (Below.refl _ _).alloc (Nat.le_refl _) _
      obtain ⟨d0, d1⟩ := cells2 (heap_new (w := wr) rfl (.cells #[.int .u8 (x.1 : Nat), bv] 47))
      have HB2 := hide (HB.out.trans (hq.mono hsr))
      have HS2 := hide (src_keep hs1 hq)
      have HO2 := hide (row_keepTy HO.out (keepTy_below hq 5))
      have HX := hide hx
      have HTK := hide htk
      have HXM := hide hxm
      obtain ⟨a1, k1, rfl⟩ := src_form hs1
      have z2 := HB2.out.size
      clear hx hxm htk hs1 hq
      obtain ⟨t, body⟩ := x
      dsimp only at c0 c1 d0 d1 HB2 HS2 HO2 HX HTK HXM z2 hge ⊢
      by_cases ht : t = 0
      · subst ht
        go_wp2_with fail
        refine (show LeavesInM _ _ _ _ _ _ [] .returning _ from ⟨.bool true, ?_, rfl, HB2.out⟩)
        simp [results, Tryd.f15, go_sem]
      · have ht1 : ((t : Int) == 0) = false := by simp; omega
        have hel := enc_len t body
        have HEN := hide (ref_encode_pos (wr.alloc (.cells #[.int .u8 (t : Nat), .slice a1 body.length k1] 47)) t HXM.out.1 ht _ body HS2.out (by omega))
        go_wp2_with fail
        refine HEN.out.mono ?_
        rintro e w3 ⟨g3, k3, rfl, ho3', hb3⟩
        have HX3 := hide (own_src (show Own w3 _ _ (enc t body) from ho3') (enc_lt HXM.out.1 HXM.out.2.1 (by rw [Uv.u64_eq]; have := HXM.out.2.2; omega)))
        have HB3 := hide (HB2.out.trans (hb3.mono z2))
        have HO3 := hide (row_keepTy HO2.out (keepTy_below hb3 5))
        have z3 := HB3.out.size
        have hle := encs_take (bl := bl) i
        have hcl : (encs (bl.take i)).length + (enc t body).length ≤ 140737488355328 := by omega
        have HCL := hide hcl
        clear ho3' hb3 HEN hcl
        go_wp2_with (refine append_srcK w w3 w.heap.size _ _ (encs (bl.take i)) (enc t body) rfl (.tmp 41) (.tmp 42) rfl rfl rfl HO3.out HX3.out HCL.out z3 HB3.out ?_)
        intro v5 w5 ho5 hb5 hk5
        have he5 : encs (bl.take i) ++ enc t body = encs (bl.take (i + 1)) := by rw [HTK.out, encs_app, encs_one]
        rw [he5] at ho5
        obtain ⟨a7, k7, rfl⟩ := row_shape ho5
        have HO5 := hide ho5
        have HB5 := hide hb5
        clear ho5 hb5 hk5 HO3 HX3 HO2 he5
        go_wp2_with fail
        refine ⟨⟨i + 1, by omega, by simp, HO5.out, ?_, HB5.out⟩, by simp [intOf]; omega⟩
        · intro y hy
          rw [HTK.out] at hy
          rcases List.mem_append.1 hy with hy | hy
          · exact HN.out y hy
          · simp at hy
            subst hy
            exact ht
    · obtain rfl : i = bl.length := by omega
      rw [List.take_length] at *
      have hnz : ∀ x ∈ bl, x.1 ≠ 0 ∧ x.1 < 256 ∧ (∀ y ∈ x.2, y < 256) ∧ x.2.length < 18446744073709551616 := fun x hx => ⟨HN.out x hx, HOK.out x hx⟩
      have h256 : ∀ x ∈ encs bl, x < 256 := encs_lt (fun x hx => by have := HOK.out x hx; rw [Uv.u64_eq]; exact this)
      have hel := encs_len bl
      have hle := len_encs bl
      have hsc := scan_encs0 bl ((encs bl).length + 1) 0 (by omega) hnz
      obtain ⟨bs, hbs⟩ : ∃ bs, encs bl = bs := ⟨_, rfl⟩
      obtain ⟨N, hN⟩ : ∃ N, bs.length = N := ⟨_, rfl⟩
      rw [hbs] at h256 hel hle hsc HO ⊢
      rw [hN] at hel hle ⊢
      have HNB := hide hN
      have HSC := hide hsc
      have H256 := hide h256
      clear hbs hnz h256 hsc hN HN HOK
      have HSP := hide (spare_any wr _ bs (own_src HO.out H256.out) (by have := HNB.out; omega))
      rw [HNB.out] at HSP
      have HO' := hide (show Own wr w.heap.size (.slice a5 N k5) bs by have h := HO.out; rw [HNB.out] at h; exact h)
      clear HO
      go_wp2_with fail
      refine HSP.out.mono ?_
      rintro e w2 ⟨ga, rfl, hga, hh2, hb2⟩
      have HB2 := hide (HB.out.trans (hb2.mono hsr))
      have z2 := HB2.out.size
      have zr2 := hb2.size
      have HH2 := hide hh2
      have hga2 := heap_lt hh2
      have HA2 := hide (show Own w2 wr.heap.size (.slice (some ⟨ga, 0, none⟩) N (N + 80)) bs by
        have h := own_front (B := wr.heap.size) hh2 hga (N + 80) (by rw [room_len, HNB.out]) (by rw [room_len, HNB.out]; omega)
        rw [HNB.out] at h
        exact h)
      have HO2 := hide (own_keep HO'.out hb2)
      clear hh2 hb2 HO' HSP
      have HSN := hide (scan_any w2 _ bs (own_src HA2.out H256.out) (by have := HNB.out; omega))
      go_wp2_with fail
      refine HSN.out.mono ?_
      rintro e w3 ⟨Bx, gk, rfl, hBx, hgk, hk, hb3⟩
      have HB3 := hide (HB2.out.trans (hb3.mono z2))
      have z3 := HB3.out.size
      have z23 := hb3.size
      have HK := hide hk
      have hBx3 := heap_lt hk.1
      have hgk3 := heap_lt hk.2
      have HH3 := hide ((hb3.block _ hga2).trans HH2.out)
      have HA3 := hide (own_keep HA2.out hb3)
      have HO3 := hide (own_keep HO2.out hb3)
      clear hk hb3 HSN HH2 HA2 HO2
      have hnf := func_nil (.pointer (some ⟨Bx, 0, none⟩))
      go_wp2_with fail
      have hcl := col_lit w3
      have hzw4 : w3.heap.size + 2 ≤ ((w3.alloc (.cells #[] 47)).alloc (.cells #[.slice (some ⟨w3.heap.size, 0, none⟩) 0 0] 38)).heap.size := by simp only [World.size_alloc]; omega
      generalize (w3.alloc (.cells #[] 47)).alloc (.cells #[.slice (some ⟨w3.heap.size, 0, none⟩) 0 0] 38) = w4 at *
      have qw41 : w3.heap.size < w3.heap.size + 1 := by omega
      have qw42 : w3.heap.size + 1 < w4.heap.size := by omega
      generalize w3.heap.size + 1 = P1 at *
      have HCL := hide hcl
      have HB4 := hide (HB3.out.trans (hcl.below.mono z3))
      have HTE := hide (scan_tells_at (ScanS Bx gk) 8 Bx gk bs w4 (zip_below HZ.out HB4.out (by omega)) E (err_below (HE.out.cell 0 (by decide)) HB4.out (by omega)) (err_below (HE.out.cell 1 (by decide)) HB4.out (by omega)) (err_below (HE.out.cell 2 (by decide)) HB4.out (by omega)) (err_below (HE.out.cell 6 (by decide)) HB4.out (by omega)) (fun k hk => .inl hk) (by omega) (.inr (.inl rfl)) (.inr (.inr rfl)) (kept_under HK.out hcl.below hBx3 hgk3) H256.out (by have := HNB.out; omega))
      clear hcl
      obtain ⟨Ac, hAc⟩ : ∃ Ac : Nat → Value → Value → Act, Ac = fun bb at_ ag => { tmps := #[Value.slice ao bl.length cap, undef, u2, Value.slice a5 N k5, undef, u5, u6, u7, Value.slice (some ⟨ga, 0, none⟩) N (N + 80), Value.slice (some ⟨ga, 0, none⟩) (N + 80) (N + 80), Value.func (Fn.func 71) #[] #[Value.pointer (some ⟨Bx, 0, none⟩)], Value.pointer (some ⟨P1, 0, none⟩), undef, Value.pointer (some ⟨bb, 0, none⟩), undef, undef, undef, undef, undef, undef, undef, Value.bool true, Value.bool false, Value.slice (some ⟨w1.heap.size, 0, none⟩) 0 0, Value.slice ao bl.length cap, Value.int IntKind.i64 (bl.length : Int), Value.int IntKind.i64 (bl.length : Int), Value.bool false, u28, u29, u30, u31, u32, u33, u34, u35, u36, u37, u38, u39, u40, u41, u42, u43, u44, Value.tuple #[Value.slice (some ⟨ga, 0, none⟩) N (N + 80), Value.slice (some ⟨ga, 0, none⟩) (N + 80) (N + 80)], Value.slice a5 N k5, Value.tuple #[Value.slice (some ⟨ga, 0, none⟩) N (N + 80), Value.slice (some ⟨ga, 0, none⟩) (N + 80) (N + 80)], Value.slice (some ⟨ga, 0, none⟩) N (N + 80), Value.slice (some ⟨ga, 0, none⟩) (N + 80) (N + 80), Value.slice (some ⟨ga, 0, none⟩) N (N + 80), Value.func (Fn.func 71) #[] #[Value.pointer (some ⟨Bx, 0, none⟩)], Value.func (Fn.func 71) #[] #[Value.pointer (some ⟨Bx, 0, none⟩)], Value.bool false, Value.slice (some ⟨w3.heap.size, 0, none⟩) 0 0, Value.func (Fn.func 71) #[] #[Value.pointer (some ⟨Bx, 0, none⟩)], at_, ag, undef, undef, undef, undef, undef, undef, undef, undef, undef, undef, undef, undef, undef, undef, undef, undef, undef, undef, undef, undef, undef, undef, undef, undef, undef, undef, undef, undef, undef, undef, undef, undef, undef, undef, undef, undef, undef, undef, undef, undef, undef, undef, undef, undef, undef, undef, undef, undef, undef, undef], defers := [] } := ⟨_, rfl⟩
      refine (wpIn_wide (n := 9)).1 ?_
      refine range_told_at (α := Itm) (encs := itEnc) (Ok := itAt bs) (Sa := scanAll bs) (Sp := scanPart bs) (S := ScanS Bx gk) rfl (by omega) (gf := 71) (lb := #[.pointer (some ⟨Bx, 0, none⟩)]) rfl trivial (enters_of Tryd.func71 (by kernel_rfl) rfl)
        HTE.out (by rintro k (h | rfl | rfl) <;> omega) (fun _ => rfl)
        (fun pre W => Col w3 W w3.heap.size P1 pre ∧ w4.heap.size ≤ W.heap.size)
        (fun _ _ _ => False)
        (fun pre x a' W => Col w3 W w3.heap.size P1 pre ∧ w4.heap.size ≤ W.heap.size ∧ pre.length + 1 ≤ bl.length ∧ Come W w3.heap.size pre x ∧ ∃ bb, a' = Ac bb (.int .i64 (x.1 : Nat)) (.agg #[.int .u8 (x.2.1 : Nat), x.2.2.1]) ∧ W.heap[bb]? = some (.cells #[.int .u8 (x.2.1 : Nat), x.2.2.1] 47 (0, 0)))
        ?hI ?hIx ?hT ⟨HCL.out, Nat.le_refl _⟩ ?assign ?body ?done ?stop
      case hI =>
        rintro pre A C row ⟨h, h2⟩ hgr hr
        exact ⟨col_kept h (Nat.le_refl _) hgr (notTy_obj (fun r e => (hr r e).2)) (fun r e => by have := (hr r e).1; omega), Nat.le_trans h2 hgr.size⟩
      case hIx => exact fun _ => fun _ _ _ _ h => h.elim
      case hT =>
        rintro a' ⟨pre, x⟩ A C row ⟨h, h2, h4, h3, bb, e, hbb⟩ hgr hr
        have nt := notTy_obj (fun r e => (hr r e).2)
        exact ⟨col_kept h (Nat.le_refl _) hgr nt (fun r e => by have := (hr r e).1; omega), Nat.le_trans h2 hgr.size, h4, come_keepTy h3 (keepTy_grown hgr (nt 5)), bb, e, keepTy_grown hgr (nt 47) _ _ _ hbb⟩
      case assign =>
        rintro l pre ⟨at_, t, v, body⟩ A C K ⟨h, h2⟩ hb ⟨hpt, hok⟩ hzA hK
        obtain ⟨a2, c2, b2, i2⟩ := h.blks
        have hcm := come_of i2 hok (by omega)
        have hpl : pre.length + 1 ≤ bl.length := by
          obtain ⟨r1, r2, _, e2⟩ := hpt
          rw [HSC.out] at e2
          have := congrArg List.length e2
          simp [bds] at this
          omega
        clear hpt
        have hc := col_below h (Nat.le_refl _) hb
        clear i2 b2
        have hzC := hb.size
        obtain ⟨_, gx, m, hv, hm, _⟩ := hok
        simp only at hv hm
        subst hv
        have HM := hide hm
        clear hm
        have hw : Below C.heap.size C (C.alloc (.cells #[.int .u8 (t : Nat), .slice (some ⟨gx, 0, none⟩) m m] 47)) := (Below.refl C.heap.size C).alloc (Nat.le_refl _) _
        have hK' := hide (hK (Ac C.heap.size (.int .i64 (at_ : Nat)) (.agg #[.int .u8 (t : Nat), .slice (some ⟨gx, 0, none⟩) m m])) _ ((KeepsOthers.alloc _ _).from _) (same_below hw)
          ⟨col_below hc (Nat.le_refl _) hw, by have := hw.size; omega, hpl, come_keepTy hcm (keepTy_below hw 5), C.heap.size, rfl, heap_new rfl _⟩)
        clear hK hc hcm hw
        subst hAc
        dsimp only [itEnc]
        gi_wp2_with fail
        exact hK'.out
      case body =>
        rintro l pre ⟨at_, t, v, body⟩ a' W ⟨h, h2, hpl, h3, bb, rfl, hbb⟩
        obtain ⟨a2, k2, b2, i2⟩ := h.blks
        have HC := hide h
        have HCM := hide h3
        have hzW := h.below.size
        have e1 := b2.cell
        have f1 := b2.frozen
        have n2 : (pre.map (·.2)).length = pre.length := by simp
        have HI2 := hide i2
        have HBX2 := hide b2
        have HLE := hide (show (pre.map fun (z : Itm) => z.2).length ≤ 1099511627776 by
          rw [n2]; omega)
        obtain ⟨d0, d1⟩ := cells2 hbb
        subst hAc
        dsimp only at hbb d0 d1 ⊢
        have HBB := hide hbb
        clear h h3 i2 b2 hbb
        have hq4 : Below W.heap.size W (W.alloc (.cells #[.int .u8 (t : Nat), v] 47)) := (Below.refl _ _).alloc (Nat.le_refl _) _
        have HI4 := hide (bfam_below HI2.out hq4)
        have HM4 := hide (come_keepTy HCM.out (keepTy_below hq4 5))
        have hz4 := hq4.size
        have HH4 := hide (heap_new (w := W) rfl (.cells #[.int .u8 (t : Nat), v] 47))
        clear hq4
        have HAP := hide (fun (y : It) (hy : y ∈ pre.map fun (z : Itm) => z.2) (g : Nat) (hg : y.2.1.ownBlock = some g) => (by obtain ⟨z, hz, rfl⟩ := List.mem_map.1 hy; exact HM4.out.apart z hz g hg : v.ownBlock ≠ some g))
        have HBE := hide (show w3.heap.size ≤ (W.alloc (.cells #[.int .u8 (t : Nat), v] 47)).heap.size by omega)
        gi_wp2_with (refine append_blkI _ w3.heap.size W.heap.size (.slice a2 pre.length k2) (pre.map fun (z : Itm) => z.2) (t, v, body) rfl (.tmp 58) (.tmp 60) rfl rfl rfl HI4.out HM4.out.tag HM4.out.own HM4.out.lt HAP.out HH4.out HLE.out HBE.out ?_)
        intro g2 cap2 wb hob hgb
        obtain ⟨hv1, hv2, hr2, hko, hbw⟩ := HBX2.out.appended (by decide) HI2.out.1 (by omega) (by omega) hob.1 hgb
        have hc1 := hv1.cell
        have hf1 := hv1.frozen
        have HV5 := hide hv2
        have HB5 := hide hbw
        have HO5 := hide hko
        have HX5 := hide (show BFam (wb.setCell ⟨P1, 0, none⟩ (.slice (some ⟨g2, 0, none⟩) (pre.length + 1) cap2)) w3.heap.size (.slice (some ⟨g2, 0, none⟩) (pre.length + 1) cap2) (pre.map (fun (z : Itm) => z.2) ++ [(t, v, body)]) from by
          have hob' := hob
          try rw [n2] at hob'
          exact ⟨row_keepTy hob'.1 (keepTy_grown (grownBy_setCell' wb P1 _) (notTy_box hv1 (by decide))), hob'.2.1, fam_keepTy hob'.2.2 (keepTy_grown (grownBy_setCell' wb P1 _) (notTy_box hv1 (by decide)))⟩)
        clear hv1 hv2 hr2 hko hbw hgb hob e1 f1 d0 d1
        gi_wp2_with fail
        have hn2 : (pre ++ [((at_, t, v, body) : Itm)]).length = pre.length + 1 := by simp
        have hp2 : (pre ++ [(at_, t, v, body)]).map (fun (z : Itm) => z.2) = pre.map (fun (z : Itm) => z.2) ++ [(t, v, body)] := by simp
        refine ⟨HO5.out.from _, same_under HB5.out (by rintro k (h | rfl | rfl) <;> omega), ⟨⟨some ⟨g2, 0, none⟩, cap2, ?_, ?_⟩, HC.out.below.trans HB5.out⟩, by have := HB5.out.size; omega⟩
        · rw [hn2]; exact HV5.out
        · rw [hn2, hp2]
          exact HX5.out
      case stop =>
        rintro D c pre W hD hS h
        exact h.elim
      case done =>
        rintro D1 xs1 w5 hD1 ⟨e1, e2⟩ ⟨h, h2⟩ hK
        have hq1 : D1 < w5.heap.size := heap_lt hK
        rw [HSC.out] at e2
        have HXS1 := hide e2
        have HKD1 := hide hK
        have HCO1 := hide h
        have zw5 := h.below.size
        clear e1 e2 h hK HCL HTE
        subst hAc
        have HB5 := hide (HB3.out.trans (HCO1.out.below.mono z3))
        have zw5 := HB5.out.size
        go_wp2_with fail
        have hcl := col_lit w5
        have hzw6 : w5.heap.size + 2 ≤ ((w5.alloc (.cells #[] 47)).alloc (.cells #[.slice (some ⟨w5.heap.size, 0, none⟩) 0 0] 38)).heap.size := by simp only [World.size_alloc]; omega
        generalize (w5.alloc (.cells #[] 47)).alloc (.cells #[.slice (some ⟨w5.heap.size, 0, none⟩) 0 0] 38) = w6 at *
        have qw61 : w5.heap.size < w5.heap.size + 1 := by omega
        have qw62 : w5.heap.size + 1 < w6.heap.size := by omega
        generalize w5.heap.size + 1 = P2 at *
        have HCL := hide hcl
        have HB6 := hide (HB5.out.trans (hcl.below.mono zw5))
        have HTE := hide (scan_tells_at (ScanS Bx gk) 8 Bx gk bs w6 (zip_below HZ.out HB6.out (by omega)) E (err_below (HE.out.cell 0 (by decide)) HB6.out (by omega)) (err_below (HE.out.cell 1 (by decide)) HB6.out (by omega)) (err_below (HE.out.cell 2 (by decide)) HB6.out (by omega)) (err_below (HE.out.cell 6 (by decide)) HB6.out (by omega)) (fun k hk => .inl hk) (by omega) (.inr (.inl rfl)) (.inr (.inr rfl)) (kept_under HK.out (HCO1.out.below.trans (hcl.below.mono HCO1.out.below.size)) hBx3 hgk3) H256.out (by have := HNB.out; omega))
        clear hcl
        obtain ⟨Ac, hAc⟩ : ∃ Ac : Nat → Value → Value → Act, Ac = fun bb at_ ag => { tmps := #[Value.slice ao bl.length cap, undef, u2, Value.slice a5 N k5, undef, u5, u6, u7, Value.slice (some ⟨ga, 0, none⟩) N (N + 80), Value.slice (some ⟨ga, 0, none⟩) (N + 80) (N + 80), Value.func (Fn.func 71) #[] #[Value.pointer (some ⟨Bx, 0, none⟩)], Value.pointer (some ⟨P1, 0, none⟩), undef, undef, Value.pointer (some ⟨P2, 0, none⟩), undef, Value.pointer (some ⟨bb, 0, none⟩), undef, undef, undef, undef, Value.bool true, Value.bool false, Value.slice (some ⟨w1.heap.size, 0, none⟩) 0 0, Value.slice ao bl.length cap, Value.int IntKind.i64 (bl.length : Int), Value.int IntKind.i64 (bl.length : Int), Value.bool false, u28, u29, u30, u31, u32, u33, u34, u35, u36, u37, u38, u39, u40, u41, u42, u43, u44, Value.tuple #[Value.slice (some ⟨ga, 0, none⟩) N (N + 80), Value.slice (some ⟨ga, 0, none⟩) (N + 80) (N + 80)], Value.slice a5 N k5, Value.tuple #[Value.slice (some ⟨ga, 0, none⟩) N (N + 80), Value.slice (some ⟨ga, 0, none⟩) (N + 80) (N + 80)], Value.slice (some ⟨ga, 0, none⟩) N (N + 80), Value.slice (some ⟨ga, 0, none⟩) (N + 80) (N + 80), Value.slice (some ⟨ga, 0, none⟩) N (N + 80), Value.func (Fn.func 71) #[] #[Value.pointer (some ⟨Bx, 0, none⟩)], Value.func (Fn.func 71) #[] #[Value.pointer (some ⟨Bx, 0, none⟩)], Value.bool false, Value.slice (some ⟨w3.heap.size, 0, none⟩) 0 0, Value.func (Fn.func 71) #[] #[Value.pointer (some ⟨Bx, 0, none⟩)], undef, undef, undef, undef, undef, undef, Value.slice (some ⟨w5.heap.size, 0, none⟩) 0 0, Value.func (Fn.func 71) #[] #[Value.pointer (some ⟨Bx, 0, none⟩)], at_, ag, undef, undef, undef, undef, undef, undef, undef, undef, undef, undef, undef, undef, undef, undef, undef, undef, undef, undef, undef, undef, undef, undef, undef, undef, undef, undef, undef, undef, undef, undef, undef, undef, undef, undef, undef, undef, undef, undef, undef, undef, undef, undef], defers := [] } := ⟨_, rfl⟩
        refine (wpIn_wide (n := 9)).1 ?_
        refine range_told_at (α := Itm) (encs := itEnc) (Ok := itAt bs) (Sa := scanAll bs) (Sp := scanPart bs) (S := ScanS Bx gk) rfl (by omega) (gf := 71) (lb := #[.pointer (some ⟨Bx, 0, none⟩)]) rfl trivial (enters_of Tryd.func71 (by kernel_rfl) rfl)
          HTE.out (by rintro k (h | rfl | rfl) <;> omega) (fun _ => rfl)
          (fun pre W => Col w5 W w5.heap.size P2 pre ∧ w6.heap.size ≤ W.heap.size)
          (fun _ _ _ => False)
          (fun pre x a' W => Col w5 W w5.heap.size P2 pre ∧ w6.heap.size ≤ W.heap.size ∧ pre.length + 1 ≤ bl.length ∧ Come W w5.heap.size pre x ∧ ∃ bb, a' = Ac bb (.int .i64 (x.1 : Nat)) (.agg #[.int .u8 (x.2.1 : Nat), x.2.2.1]) ∧ W.heap[bb]? = some (.cells #[.int .u8 (x.2.1 : Nat), x.2.2.1] 47 (0, 0)))
          ?hI ?hIx ?hT ⟨HCL.out, Nat.le_refl _⟩ ?assign ?body ?done ?stop
        case hI =>
          rintro pre A C row ⟨h, h2⟩ hgr hr
          exact ⟨col_kept h (Nat.le_refl _) hgr (notTy_obj (fun r e => (hr r e).2)) (fun r e => by have := (hr r e).1; omega), Nat.le_trans h2 hgr.size⟩
        case hIx => exact fun _ => fun _ _ _ _ h => h.elim
        case hT =>
          rintro a' ⟨pre, x⟩ A C row ⟨h, h2, h4, h3, bb, e, hbb⟩ hgr hr
          have nt := notTy_obj (fun r e => (hr r e).2)
          exact ⟨col_kept h (Nat.le_refl _) hgr nt (fun r e => by have := (hr r e).1; omega), Nat.le_trans h2 hgr.size, h4, come_keepTy h3 (keepTy_grown hgr (nt 5)), bb, e, keepTy_grown hgr (nt 47) _ _ _ hbb⟩
        case assign =>
          rintro l pre ⟨at_, t, v, body⟩ A C K ⟨h, h2⟩ hb ⟨hpt, hok⟩ hzA hK
          obtain ⟨a2, c2, b2, i2⟩ := h.blks
          have hcm := come_of i2 hok (by omega)
          have hpl : pre.length + 1 ≤ bl.length := by
            obtain ⟨r1, r2, _, e2⟩ := hpt
            rw [HSC.out] at e2
            have := congrArg List.length e2
            simp [bds] at this
            omega
          clear hpt
          have hc := col_below h (Nat.le_refl _) hb
          clear i2 b2
          have hzC := hb.size
          obtain ⟨_, gx, m, hv, hm, _⟩ := hok
          simp only at hv hm
          subst hv
          have HM := hide hm
          clear hm
          have hw : Below C.heap.size C (C.alloc (.cells #[.int .u8 (t : Nat), .slice (some ⟨gx, 0, none⟩) m m] 47)) := (Below.refl C.heap.size C).alloc (Nat.le_refl _) _
          have hK' := hide (hK (Ac C.heap.size (.int .i64 (at_ : Nat)) (.agg #[.int .u8 (t : Nat), .slice (some ⟨gx, 0, none⟩) m m])) _ ((KeepsOthers.alloc _ _).from _) (same_below hw)
            ⟨col_below hc (Nat.le_refl _) hw, by have := hw.size; omega, hpl, come_keepTy hcm (keepTy_below hw 5), C.heap.size, rfl, heap_new rfl _⟩)
          clear hK hc hcm hw
          subst hAc
          dsimp only [itEnc]
          gi_wp2_with fail
          exact hK'.out
        case body =>
          rintro l pre ⟨at_, t, v, body⟩ a' W ⟨h, h2, hpl, h3, bb, rfl, hbb⟩
          obtain ⟨a2, k2, b2, i2⟩ := h.blks
          have HC := hide h
          have HCM := hide h3
          have hzW := h.below.size
          have e1 := b2.cell
          have f1 := b2.frozen
          have n2 : (pre.map (·.2)).length = pre.length := by simp
          have HI2 := hide i2
          have HBX2 := hide b2
          have HLE := hide (show (pre.map fun (z : Itm) => z.2).length ≤ 1099511627776 by
            rw [n2]; omega)
          obtain ⟨d0, d1⟩ := cells2 hbb
          subst hAc
          dsimp only at hbb d0 d1 ⊢
          have HBB := hide hbb
          clear h h3 i2 b2 hbb
          have hq4 : Below W.heap.size W (W.alloc (.cells #[.int .u8 (t : Nat), v] 47)) := (Below.refl _ _).alloc (Nat.le_refl _) _
          have HI4 := hide (bfam_below HI2.out hq4)
          have HM4 := hide (come_keepTy HCM.out (keepTy_below hq4 5))
          have hz4 := hq4.size
          have HH4 := hide (heap_new (w := W) rfl (.cells #[.int .u8 (t : Nat), v] 47))
          clear hq4
          have HAP := hide (fun (y : It) (hy : y ∈ pre.map fun (z : Itm) => z.2) (g : Nat) (hg : y.2.1.ownBlock = some g) => (by obtain ⟨z, hz, rfl⟩ := List.mem_map.1 hy; exact HM4.out.apart z hz g hg : v.ownBlock ≠ some g))
          have HBE := hide (show w5.heap.size ≤ (W.alloc (.cells #[.int .u8 (t : Nat), v] 47)).heap.size by omega)
          gi_wp2_with (refine append_blkI _ w5.heap.size W.heap.size (.slice a2 pre.length k2) (pre.map fun (z : Itm) => z.2) (t, v, body) rfl (.tmp 66) (.tmp 68) rfl rfl rfl HI4.out HM4.out.tag HM4.out.own HM4.out.lt HAP.out HH4.out HLE.out HBE.out ?_)
          intro g2 cap2 wb hob hgb
          obtain ⟨hv1, hv2, hr2, hko, hbw⟩ := HBX2.out.appended (by decide) HI2.out.1 (by omega) (by omega) hob.1 hgb
          have hc1 := hv1.cell
          have hf1 := hv1.frozen
          have HV5 := hide hv2
          have HB5 := hide hbw
          have HO5 := hide hko
          have HX5 := hide (show BFam (wb.setCell ⟨P2, 0, none⟩ (.slice (some ⟨g2, 0, none⟩) (pre.length + 1) cap2)) w5.heap.size (.slice (some ⟨g2, 0, none⟩) (pre.length + 1) cap2) (pre.map (fun (z : Itm) => z.2) ++ [(t, v, body)]) from by
            have hob' := hob
            try rw [n2] at hob'
            exact ⟨row_keepTy hob'.1 (keepTy_grown (grownBy_setCell' wb P2 _) (notTy_box hv1 (by decide))), hob'.2.1, fam_keepTy hob'.2.2 (keepTy_grown (grownBy_setCell' wb P2 _) (notTy_box hv1 (by decide)))⟩)
          clear hv1 hv2 hr2 hko hbw hgb hob e1 f1 d0 d1
          gi_wp2_with fail
          have hn2 : (pre ++ [((at_, t, v, body) : Itm)]).length = pre.length + 1 := by simp
          have hp2 : (pre ++ [(at_, t, v, body)]).map (fun (z : Itm) => z.2) = pre.map (fun (z : Itm) => z.2) ++ [(t, v, body)] := by simp
          refine ⟨HO5.out.from _, same_under HB5.out (by rintro k (h | rfl | rfl) <;> omega), ⟨⟨some ⟨g2, 0, none⟩, cap2, ?_, ?_⟩, HC.out.below.trans HB5.out⟩, by have := HB5.out.size; omega⟩
          · rw [hn2]; exact HV5.out
          · rw [hn2, hp2]
            exact HX5.out
        case stop =>
          rintro D c pre W hD hS h
          exact h.elim
        case done =>
          rintro D2 xs2 w7 hD2 ⟨e1, e2⟩ ⟨h, h2⟩ hK
          have hq2 : D2 < w7.heap.size := heap_lt hK
          rw [HSC.out] at e2
          have HXS2 := hide e2
          have HKD2 := hide hK
          have HCO2 := hide h
          have zw7 := h.below.size
          clear e1 e2 h hK HCL HTE
          subst hAc
          have hb57 := HCO2.out.below
          obtain ⟨a1, c1, b1, i1⟩ := HCO1.out.blks
          obtain ⟨a2, c2, b2, i2⟩ := HCO2.out.blks
          have HB7 := hide (HB5.out.trans (hb57.mono zw5))
          have zw7 := HB7.out.size
          have l1 : xs1.length = bl.length := by have := congrArg List.length HXS1.out; simpa [bds] using this.symm
          have l2 : xs2.length = bl.length := by have := congrArg List.length HXS2.out; simpa [bds] using this.symm
          obtain ⟨its1, hits1⟩ : ∃ its, xs1.map (fun (z : Itm) => z.2) = its := ⟨_, rfl⟩
          obtain ⟨its2, hits2⟩ : ∃ its, xs2.map (fun (z : Itm) => z.2) = its := ⟨_, rfl⟩
          have m1 : its1.length = bl.length := by rw [← hits1, List.length_map]; exact l1
          have m2 : its2.length = bl.length := by rw [← hits2, List.length_map]; exact l2
          have o1 : blOf its1 = bl := by
            have h : bl = bds xs1 := HXS1.out
            rw [h, ← hits1]
            simp [blOf, bds]
          have o2 : blOf its2 = bl := by
            have h : bl = bds xs2 := HXS2.out
            rw [h, ← hits2]
            simp [blOf, bds]
          rw [l1, hits1] at i1
          rw [l2, hits2] at i2
          rw [l1] at b1
          rw [l2] at b2
          have B1 := hide (box_kept b1 (grown_of_below hb57) (notTy_none _ _))
          have B2 := hide b2
          have I15 := hide i1.2.2
          have I1 := hide (bfam_below i1 hb57)
          have I2 := hide i2
          have O1 := hide o1
          have O2 := hide o2
          have M1 := hide m1
          have M2 := hide m2
          have HK7 := hide (kept_under HK.out ((HCO1.out.below.mono (Nat.le_refl _)).trans (hb57.mono HCO1.out.below.size)) hBx3 hgk3)
          have HA7 := hide (own_keep HA3.out (HCO1.out.below.trans (hb57.mono HCO1.out.below.size)))
          have HO7 := hide (own_keep HO3.out (HCO1.out.below.trans (hb57.mono HCO1.out.below.size)))
          have HH7 := hide (((HCO1.out.below.trans (hb57.mono HCO1.out.below.size)).block _ (by omega)).trans HH3.out)
          have HV7 := hide (blocks_keep HV.out HB7.out)
          have X1 := hide (show Blocks w7 (.slice a1 bl.length c1) bl by have h := bown_blocks (bfam_bown I1.out); rw [O1.out] at h; exact h)
          have X2 := hide (show Blocks w7 (.slice a2 bl.length c2) bl by have h := bown_blocks (bfam_bown I2.out); rw [O2.out] at h; exact h)
          have HK1 := hide (((hb57.block _ hq1).trans HKD1.out))
          clear hits1 hits2 l1 l2 m1 m2 o1 o2 i1 i2 b1 b2 hb57 HKD1
          have c70 := B1.out.cell
          have c75 := B2.out.cell
          have HSB := hide (same_blocks w7 _ _ bl X1.out HV7.out (by omega))
          go_wp2_with fail
          refine HSB.out.mono ?_
          rintro e w' ⟨rfl, q1, rfl⟩
          have c75' : (w7.drewN q1).cell? ⟨P2, 0, none⟩ = some (.slice a2 bl.length c2) := c75
          have HSB2 := hide (same_blocks (w7.drewN q1) _ _ bl (blocks_keep X2.out (below_drewN (Below.refl w7.heap.size w7) q1)) (blocks_keep HV7.out (below_drewN (Below.refl w7.heap.size w7) q1)) (by omega))
          go_wp2_with fail
          refine HSB2.out.mono ?_
          rintro e w' ⟨rfl, q2, rfl⟩
          rw [World.drewN_drewN]
          have HKP := hide (kept_any (w7.drewN (q1 + q2)) ga _ bs HH7.out (src_keep (own_src HO7.out H256.out) (below_drewN (Below.refl w7.heap.size w7) (q1 + q2))) (by have := HNB.out; omega))
          rw [HNB.out] at HKP
          clear c70 c75 c75' HSB HSB2
          go_wp2_with fail
          refine HKP.out.mono ?_
          rintro e w' ⟨rfl, q3, rfl⟩
          rw [World.drewN_drewN]
          obtain ⟨q, hq⟩ : ∃ q, q1 + q2 + q3 = q := ⟨_, rfl⟩
          rw [hq]
          clear hq HKP
          have hb8 := below_drewN (Below.refl w7.heap.size w7) q
          have HB8 := hide (HB7.out.trans (hb8.mono zw7))
          have B18 := hide (show Boxed (w7.drewN q) P1 38 (.slice a1 bl.length c1) from B1.out)
          have B28 := hide (show Boxed (w7.drewN q) P2 38 (.slice a2 bl.length c2) from B2.out)
          have I18 := hide (bfam_below I1.out hb8)
          have I28 := hide (bfam_below I2.out hb8)
          have HA8 := hide (own_keep HA7.out hb8)
          have HK8 := hide (show Kept (w7.drewN q) Bx gk bs from HK7.out)
          have HM1 := hide (show (w7.drewN q).heap[D1]? = some (.deferred (some [])) from HK1.out)
          have HM2 := hide (show (w7.drewN q).heap[D2]? = some (.deferred (some [])) from HKD2.out)
          have z78 : w7.heap.size ≤ (w7.drewN q).heap.size := Nat.le_refl _
          clear hb8 B1 B2 I1 I2 HA7 HK7 HK1 HKD2 X1 X2 HH7 HV7 HO7
          generalize w7.drewN q = w8 at *
          have zw8 := HB8.out.size
          have c70 := B18.out.cell
          have c75 := B28.out.cell
          have hP1 : P1 < w8.heap.size := B18.out.lt
          have hP2 : P2 < w8.heap.size := B28.out.lt
          go_upto_region 26 with (fail)
          go_cut [17] from 86 to 90 (fun s17 wx => ∃ a c, s17 = .slice a (bl.length + bl.length) c ∧ HOwn wx w8.heap.size s17 (its1.map (·.2.1) ++ its2.map (·.2.1)) ∧ Below w8.heap.size w8 wx)
          case first =>
            refine wp_region_noPanic ?_
            refine wp_region_held_drew (S := fun w' => w'.cell? ⟨P1, 0, none⟩ = some (.slice a1 bl.length c1) ∧ w'.cell? ⟨P2, 0, none⟩ = some (.slice a2 bl.length c2)) (by kernel_rfl) ⟨c70, c75⟩ (fun hHeld => ?_)
            refine' wpAnyH_take (i := 0) (oi := { dst := some 86, op := Op.load 38 (Operand.tmp 11), type := 38, pos := "memory.go:97", after := #[], guard := none }) (v := .slice a1 bl.length c1) rfl (by kernel_rfl) (by kernel_rfl) (by kernel_rfl) (fun _ _ _ h => h) (Or.inl ⟨by rfl, ?y0⟩) (by assumption) ?r0
            case y0 => (intro w hSw; (try dsimp only at hSw); go_simp; try with_reducible rfl)
            simp only [Act.put, List.setIfInBounds_toArray, List.set_cons_zero, List.set_cons_succ]
            refine' wpAnyH_take (i := 2) (oi := { dst := some 88, op := Op.load 38 (Operand.tmp 14), type := 38, pos := "memory.go:97", after := #[], guard := none }) (v := .slice a2 bl.length c2) rfl (by kernel_rfl) (by kernel_rfl) (by kernel_rfl) (fun _ _ _ h => h) (Or.inl ⟨by rfl, ?y2⟩) (by assumption) ?r2
            case y2 => (intro w hSw; (try dsimp only at hSw); go_simp; try with_reducible rfl)
            simp only [Act.put, List.setIfInBounds_toArray, List.set_cons_zero, List.set_cons_succ]
            refine wpAnyH_ready (rs := [1]) (by kernel_rfl) (by simp) ?_
            refine AllReadyH.cons (o := { dst := some 87, op := Op.call { callee := Callee.value (Operand.func 46), args := #[Operand.tmp 86], argTypes := #[38] }, type := 62, pos := "memory.go:97", after := #[{ on := 0, ground := Ground.data }], guard := none }) rfl (fun K hK => ?_) AllReadyH.nil
            · go_simp
              refine (bodies_any w8.drew w3.heap.size _ its1 (show w8.drew.ownsRow _ _ _ _ _ _ from I18.out.1) (bfam_slices I18.out) (by have := M1.out; omega)).mono ?_
              rintro e wa ⟨v9, rfl, ha, hba⟩
              dsimp only
              have HBa := hide ((Below.refl w8.heap.size w8).drew.trans hba)
              have za : w8.heap.size ≤ wa.heap.size := HBa.out.size
              have HHa := hide (show HOwn wa w8.heap.size v9 _ from ha)
              refine hK.out _ _ ⟨(HBa.out.cell (p := ⟨P1, 0, none⟩) hP1).trans c70, (HBa.out.cell (p := ⟨P2, 0, none⟩) hP2).trans c75⟩ (fun _ => ?_)
              clear hK K ha hba
              try simp only [Act.put, List.setIfInBounds_toArray, List.set_cons_zero, List.set_cons_succ]
              refine wpAnyH_ready (rs := [3]) (by kernel_rfl) (by simp) ?_
              refine AllReadyH.cons (o := { dst := some 89, op := Op.call { callee := Callee.value (Operand.func 46), args := #[Operand.tmp 88], argTypes := #[38] }, type := 62, pos := "memory.go:97", after := #[{ on := 2, ground := Ground.data }, { on := 1, ground := Ground.chain }], guard := none }) rfl (fun K hK => ?_) AllReadyH.nil
              go_simp
              refine (bodies_any wa w5.heap.size _ its2 (row_keepTy I28.out.1 (keepTy_below HBa.out 47)) (bfam_slices I28.out) (by have := M2.out; omega)).mono ?_
              rintro e wb ⟨v10, rfl, hb, hbb⟩
              dsimp only
              have HBb := hide (HBa.out.trans (hbb.mono za))
              have zb : w8.heap.size ≤ wb.heap.size := HBb.out.size
              have HHb := hide hb
              have HHa' := hide (show HOwn wb w8.heap.size v9 _ from row_keepTy HHa.out (keepTy_below hbb 25))
              refine hK.out _ _ ⟨(HBb.out.cell (p := ⟨P1, 0, none⟩) hP1).trans c70, (HBb.out.cell (p := ⟨P2, 0, none⟩) hP2).trans c75⟩ (fun _ => ?_)
              clear hK K hb hbb
              try simp only [Act.put, List.setIfInBounds_toArray, List.set_cons_zero, List.set_cons_succ]
              refine wpAnyH_ready (rs := [4]) (by kernel_rfl) (by simp) ?_
              refine AllReadyH.cons (o := { dst := some 90, op := Op.call { callee := Callee.builtin Builtin.append, args := #[Operand.tmp 87, Operand.tmp 89], argTypes := #[62, 62] }, type := 62, pos := "memory.go:97", after := #[{ on := 1, ground := Ground.data }, { on := 3, ground := Ground.data }, { on := 3, ground := Ground.chain }], guard := none }) rfl (fun K hK => ?_) AllReadyH.nil
              refine step_heads wb w8.heap.size wa.heap.size v9 v10 (its1.map (·.2.1)) (its2.map (·.2.1)) rfl (.tmp 87) (.tmp 89) rfl rfl rfl (HHa'.out) (HHb.out) (bfam_one I28.out) (by rw [List.length_map, List.length_map]; have := M1.out; have := M2.out; omega) zb ?_
              intro vc wc hc hgc
              have HC := hide hc
              have HBc := hide (HBb.out.grown hgc zb (fun k hk => (World.ownsRow.lt (HHa'.out) k hk).1))
              obtain ⟨ac, kc, rfl⟩ := row_shape hc
              refine hK.out _ _ ⟨(HBc.out.cell (p := ⟨P1, 0, none⟩) hP1).trans c70, (HBc.out.cell (p := ⟨P2, 0, none⟩) hP2).trans c75⟩ (fun _ => ?_)
              clear hK K hc hgc
              try simp only [Act.put, List.setIfInBounds_toArray, List.set_cons_zero, List.set_cons_succ]
              refine' wpAnyH_take (i := 5) (oi := { dst := some 17, op := Op.assign (Operand.tmp 90), type := 62, pos := "memory.go:97", after := #[{ on := 4, ground := Ground.data }, { on := 4, ground := Ground.chain }, { on := 0, ground := Ground.phase }, { on := 1, ground := Ground.phase }, { on := 2, ground := Ground.phase }, { on := 3, ground := Ground.phase }, { on := 4, ground := Ground.phase }], guard := none }) (v := .slice ac (its1.map (fun (z : It) => z.2.1) ++ its2.map (fun (z : It) => z.2.1)).length kc) rfl (by kernel_rfl) (by kernel_rfl) (by kernel_rfl) (fun _ _ _ h => h) (Or.inl ⟨by rfl, ?y5⟩) (by assumption) ?r5
              case y5 => (intro w hSw; go_simp; try with_reducible rfl)
              try simp only [Act.put, List.setIfInBounds_toArray, List.set_cons_zero, List.set_cons_succ]
              refine wpAnyH_done (by kernel_rfl) (NoPanic.normal ?_) _
              go_wp2_with fail
              go_meet
              have hll : (its1.map (fun (z : It) => z.2.1) ++ its2.map (fun (z : It) => z.2.1)).length = bl.length + bl.length := by rw [List.length_append, List.length_map, List.length_map, M1.out, M2.out]
              have hl2 : its1.length + its2.length = bl.length + bl.length := by rw [M1.out, M2.out]
              have hfin := HC.out
              rw [hll] at hfin
              rw [hl2]
              exact ⟨ac, kc, rfl, hfin, HBc.out⟩
          case rest =>
            obtain ⟨a17, c17, rfl, h17, hb9⟩ := hcut
            have z89 := hb9.size
            obtain ⟨rows, hrows⟩ : ∃ rows, rwOf its1 ++ rwOf its2 ++ [(Value.slice (some ⟨ga, 0, none⟩) N (N + 80), bs)] = rows := ⟨_, rfl⟩
            have hfst : its1.map (·.2.1) ++ its2.map (·.2.1) ++ [Value.slice (some ⟨ga, 0, none⟩) N (N + 80)] = rows.map (·.1) := by rw [← hrows, List.map_append, List.map_append, rwOf_fst, rwOf_fst]; rfl
            have hrl : rows.length = bl.length + bl.length + 1 := by
              rw [← hrows]
              simp only [List.length_append, rwOf, List.length_map, List.length_cons, List.length_nil, M1.out, M2.out]
            have hll : (its1.map (fun (z : It) => z.2.1) ++ its2.map (fun (z : It) => z.2.1)).length = bl.length + bl.length := by rw [List.length_append, List.length_map, List.length_map, M1.out, M2.out]
            have hq : Below wc.heap.size wc (wc.alloc (.cells #[.slice (some ⟨ga, 0, none⟩) N (N + 80)] 25)) := (Below.refl _ _).alloc (Nat.le_refl _) _
            have HQ := hide (show HOwn _ _ _ _ from row_keepTy h17 (keepTy_below hq 25))
            have HQB := hide (hb9.trans (hq.mono z89))
            have HNW := hide (one_new wc (.slice (some ⟨ga, 0, none⟩) N (N + 80)) 25)
            have HLL := hide (show (its1.map (fun (z : It) => z.2.1) ++ its2.map (fun (z : It) => z.2.1)).length + 1 ≤ 2199023255552 by rw [hll]; omega)
            have hql : w8.heap.size ≤ (wc.alloc (.cells #[.slice (some ⟨ga, 0, none⟩) N (N + 80)] 25)).heap.size := HQB.out.size
            have HROWS := hide hrows
            have HFST := hide hfst
            have HRL := hide hrl
            clear hrows hfst hrl hll hq h17 hb9
            go_wp2_with (refine append_heads w8 _ w8.heap.size _ (its1.map (·.2.1) ++ its2.map (·.2.1)) [.slice (some ⟨ga, 0, none⟩) N (N + 80)] rfl (.tmp 91) (.tmp 93) rfl rfl ⟨wc.heap.size, 0, none⟩ 1 1 rfl rfl HQ.out HNW.out (by simp [Value.oneCell']) HLL.out hql HQB.out ?_)
            intro v10 w10 ho10 hb10 _
            rw [← List.append_assoc, HFST.out] at ho10
            obtain ⟨L, cL, rfl, hH, hc1, hc2, hLB⟩ := hown_heads ho10 (by rw [List.length_map, HRL.out]; omega)
            rw [List.length_map] at hc1 ⊢
            have HB10 := hide (HB8.out.trans (hb10.mono zw8))
            have z10 := HB10.out.size
            have z810 := hb10.size
            have f1 : Fam w10 w3.heap.size (rwOf its1) := fam_keep I18.out.2.2 hb10
            have f2 : Fam w10 w5.heap.size (rwOf its2) := fam_keep I28.out.2.2 hb10
            have f3 := fam_one (own_keep HA8.out hb10) H256.out
            have z35 := HCO1.out.below.size
            have hF : Fam w10 wr.heap.size rows := by
              rw [← HROWS.out]
              refine fam_app (fam_mono (fam_both f1 f2 z35 (fun r hr g hg => (fam_at I15.out hr hg).2)) (by omega)) f3 ?_
              intro r hr s hs g hg e
              rw [List.mem_singleton] at hs
              subst hs
              simp only [Value.ownBlock, Option.some.injEq] at e
              rcases List.mem_append.1 hr with hr | hr
              · have := (fam_at f1 hr hg).1
                omega
              · have := (fam_at f2 hr hg).1
                omega
            have hl10 : ∀ (k : Nat) (r : Rw), rows[k]? = some r → r.2.length ≤ 140737488355000 := by
              intro k r hr
              have hm := List.mem_of_getElem? hr
              rw [← HROWS.out] at hm
              rcases List.mem_append.1 hm with hm | hm
              · rcases List.mem_append.1 hm with hm | hm
                · obtain ⟨t, ht⟩ := rw_body O1.out hm
                  have := get_tot ht
                  simp only at this
                  omega
                · obtain ⟨t, ht⟩ := rw_body O2.out hm
                  have := get_tot ht
                  simp only at this
                  omega
              · rw [List.mem_singleton] at hm
                subst hm
                have := HNB.out
                simp only
                omega
            have HOW := hide (own_any w10 wr.heap.size L rows.length cL rows rfl (by rw [HRL.out]; omega) (by rw [HRL.out]; omega) hc1 hc2 hH hF (by omega) hl10)
            have HKa := hide (show Kept w10 Bx gk bs from ⟨(hb10.block _ (heap_lt HK8.out.1)).trans HK8.out.1, (hb10.block _ (heap_lt HK8.out.2)).trans HK8.out.2⟩)
            have HD1a := hide ((hb10.block _ (heap_lt HM1.out)).trans HM1.out)
            have HD2a := hide ((hb10.block _ (heap_lt HM2.out)).trans HM2.out)
            have hgk' : ¬ InRows rows gk := fun h => by
              obtain ⟨r, hr, hg⟩ := inrows_mem h
              rw [← HROWS.out] at hr
              rcases List.mem_append.1 hr with hr | hr
              · rcases List.mem_append.1 hr with hr | hr
                · have := (fam_at f1 hr hg).1
                  omega
                · have := (fam_at f2 hr hg).1
                  omega
              · rw [List.mem_singleton] at hr
                subst hr
                simp only [Value.ownBlock, Option.some.injEq] at hg
                omega
            have HGK := hide hgk'
            have HFA := hide hF
            clear ho10 hH hF hl10 f1 f2 f3 hc1 hc2 hLB hgk' HQ HQB HNW HLL hql HFST hb10
            go_wp2_with fail
            refine HOW.out.mono ?_
            rintro e w11 ⟨rfl, hown, hfoot⟩
            have hb11 := foot_below hfoot HFA.out (by omega : wr.heap.size ≤ w10.heap.size)
            have HB11 := hide (HB10.out.trans (hb11.mono hsr))
            have z11 := HB11.out.size
            have z1011 := hfoot.size
            have cells : ∀ (k : Nat) (o : Obj), w10.heap[k]? = some o → (∀ cs, o ≠ .cells cs 5 (0, 0)) → w11.heap[k]? = some o := fun k o ho hn =>
              (hfoot.block k (heap_lt ho) (fun hr => by obtain ⟨cs, hc⟩ := inrows_cells HFA.out hr; rw [hc] at ho; exact hn cs (Option.some.inj ho).symm)).trans ho
            have HK11 := hide (show Kept w11 Bx gk bs from ⟨cells _ _ HKa.out.1 (by simp), (hfoot.block _ (heap_lt HKa.out.2) HGK.out).trans HKa.out.2⟩)
            have HD111 := hide (cells _ _ HD1a.out (by simp))
            have HD211 := hide (cells _ _ HD2a.out (by simp))
            have hBx11 := heap_lt HK11.out.1
            have hgk11 := heap_lt HK11.out.2
            have hD11 := heap_lt HD111.out
            have hD21 := heap_lt HD211.out
            clear hown hfoot hb11 cells HKa HD1a HD2a HFA HGK HOW I18 I28 HA8 HK8 HM1 HM2 B18 B28 c70 c75 HROWS HRL I15 M1 M2 O1 O2
            go_wp2_with fail
            have hcl := col_lit w11
            have hzw12 : w11.heap.size + 2 ≤ ((w11.alloc (.cells #[] 47)).alloc (.cells #[.slice (some ⟨w11.heap.size, 0, none⟩) 0 0] 38)).heap.size := by simp only [World.size_alloc]; omega
            generalize (w11.alloc (.cells #[] 47)).alloc (.cells #[.slice (some ⟨w11.heap.size, 0, none⟩) 0 0] 38) = w12 at *
            have qw121 : w11.heap.size < w11.heap.size + 1 := by omega
            have qw122 : w11.heap.size + 1 < w12.heap.size := by omega
            generalize w11.heap.size + 1 = P3 at *
            have HCL := hide hcl
            have HB12 := hide (HB11.out.trans (hcl.below.mono z11))
            have HTE := hide (scan_tells_at (ScanS Bx gk) 8 Bx gk bs w12 (zip_below HZ.out HB12.out (by omega)) E (err_below (HE.out.cell 0 (by decide)) HB12.out (by omega)) (err_below (HE.out.cell 1 (by decide)) HB12.out (by omega)) (err_below (HE.out.cell 2 (by decide)) HB12.out (by omega)) (err_below (HE.out.cell 6 (by decide)) HB12.out (by omega)) (fun k hk => .inl hk) (by omega) (.inr (.inl rfl)) (.inr (.inr rfl)) (kept_under HK11.out hcl.below hBx11 hgk11) H256.out (by have := HNB.out; omega))
            clear hcl
            obtain ⟨Ac, hAc⟩ : ∃ Ac : Nat → Value → Value → Act, Ac = fun bb at_ ag => { tmps := #[Value.slice ao bl.length cap, undef, u2, Value.slice a5 N k5, undef, u5, u6, u7, Value.slice (some ⟨ga, 0, none⟩) N (N + 80), Value.slice (some ⟨ga, 0, none⟩) (N + 80) (N + 80), Value.func (Fn.func 71) #[] #[Value.pointer (some ⟨Bx, 0, none⟩)], Value.pointer (some ⟨P1, 0, none⟩), undef, undef, Value.pointer (some ⟨P2, 0, none⟩), undef, undef, Value.slice a17 (bl.length + bl.length) c17, Value.pointer (some ⟨P3, 0, none⟩), undef, Value.pointer (some ⟨bb, 0, none⟩), Value.bool true, Value.bool false, Value.slice (some ⟨w1.heap.size, 0, none⟩) 0 0, Value.slice ao bl.length cap, Value.int IntKind.i64 (bl.length : Int), Value.int IntKind.i64 (bl.length : Int), Value.bool false, u28, u29, u30, u31, u32, u33, u34, u35, u36, u37, u38, u39, u40, u41, u42, u43, u44, Value.tuple #[Value.slice (some ⟨ga, 0, none⟩) N (N + 80), Value.slice (some ⟨ga, 0, none⟩) (N + 80) (N + 80)], Value.slice a5 N k5, Value.tuple #[Value.slice (some ⟨ga, 0, none⟩) N (N + 80), Value.slice (some ⟨ga, 0, none⟩) (N + 80) (N + 80)], Value.slice (some ⟨ga, 0, none⟩) N (N + 80), Value.slice (some ⟨ga, 0, none⟩) (N + 80) (N + 80), Value.slice (some ⟨ga, 0, none⟩) N (N + 80), Value.func (Fn.func 71) #[] #[Value.pointer (some ⟨Bx, 0, none⟩)], Value.func (Fn.func 71) #[] #[Value.pointer (some ⟨Bx, 0, none⟩)], Value.bool false, Value.slice (some ⟨w3.heap.size, 0, none⟩) 0 0, Value.func (Fn.func 71) #[] #[Value.pointer (some ⟨Bx, 0, none⟩)], undef, undef, undef, undef, undef, undef, Value.slice (some ⟨w5.heap.size, 0, none⟩) 0 0, Value.func (Fn.func 71) #[] #[Value.pointer (some ⟨Bx, 0, none⟩)], undef, undef, undef, undef, undef, undef, Value.slice a1 bl.length c1, Value.slice ao bl.length cap, Value.bool true, Value.bool false, Value.bool false, Value.slice a2 bl.length c2, Value.slice ao bl.length cap, Value.bool true, Value.bool false, Value.bool false, Value.bool false, Value.slice (some ⟨ga, 0, none⟩) (N + 80) (N + 80), Value.slice a5 N k5, Value.bool true, Value.bool false, Value.bool false, u86, u87, u88, u89, u90, Value.slice a17 (bl.length + bl.length) c17, Value.slice (some ⟨ga, 0, none⟩) N (N + 80), Value.slice (some ⟨wc.heap.size, 0, none⟩) 1 1, Value.slice (some ⟨L, 0, none⟩) rows.length cL, Value.bool true, Value.bool false, Value.slice (some ⟨w11.heap.size, 0, none⟩) 0 0, Value.func (Fn.func 71) #[] #[Value.pointer (some ⟨Bx, 0, none⟩)], at_, ag, undef, undef, undef, undef, undef, undef, undef], defers := [] } := ⟨_, rfl⟩
            refine (wpIn_wide (n := 9)).1 ?_
            refine range_told_at (α := Itm) (encs := itEnc) (Ok := itAt bs) (Sa := scanAll bs) (Sp := scanPart bs) (S := ScanS Bx gk) rfl (by omega) (gf := 71) (lb := #[.pointer (some ⟨Bx, 0, none⟩)]) rfl trivial (enters_of Tryd.func71 (by kernel_rfl) rfl)
              HTE.out (by rintro k (h | rfl | rfl) <;> omega) (fun _ => rfl)
              (fun pre W => Col w11 W w11.heap.size P3 pre ∧ w12.heap.size ≤ W.heap.size)
              (fun _ _ _ => False)
              (fun pre x a' W => Col w11 W w11.heap.size P3 pre ∧ w12.heap.size ≤ W.heap.size ∧ pre.length + 1 ≤ bl.length ∧ Come W w11.heap.size pre x ∧ ∃ bb, a' = Ac bb (.int .i64 (x.1 : Nat)) (.agg #[.int .u8 (x.2.1 : Nat), x.2.2.1]) ∧ W.heap[bb]? = some (.cells #[.int .u8 (x.2.1 : Nat), x.2.2.1] 47 (0, 0)))
              ?hI ?hIx ?hT ⟨HCL.out, Nat.le_refl _⟩ ?assign ?body ?done ?stop
            case hI =>
              rintro pre A C row ⟨h, h2⟩ hgr hr
              exact ⟨col_kept h (Nat.le_refl _) hgr (notTy_obj (fun r e => (hr r e).2)) (fun r e => by have := (hr r e).1; omega), Nat.le_trans h2 hgr.size⟩
            case hIx => exact fun _ => fun _ _ _ _ h => h.elim
            case hT =>
              rintro a' ⟨pre, x⟩ A C row ⟨h, h2, h4, h3, bb, e, hbb⟩ hgr hr
              have nt := notTy_obj (fun r e => (hr r e).2)
              exact ⟨col_kept h (Nat.le_refl _) hgr nt (fun r e => by have := (hr r e).1; omega), Nat.le_trans h2 hgr.size, h4, come_keepTy h3 (keepTy_grown hgr (nt 5)), bb, e, keepTy_grown hgr (nt 47) _ _ _ hbb⟩
            case assign =>
              rintro l pre ⟨at_, t, v, body⟩ A C K ⟨h, h2⟩ hb ⟨hpt, hok⟩ hzA hK
              obtain ⟨a2, c2, b2, i2⟩ := h.blks
              have hcm := come_of i2 hok (by omega)
              have hpl : pre.length + 1 ≤ bl.length := by
                obtain ⟨r1, r2, _, e2⟩ := hpt
                rw [HSC.out] at e2
                have := congrArg List.length e2
                simp [bds] at this
                omega
              clear hpt
              have hc := col_below h (Nat.le_refl _) hb
              clear i2 b2
              have hzC := hb.size
              obtain ⟨_, gx, m, hv, hm, _⟩ := hok
              simp only at hv hm
              subst hv
              have HM := hide hm
              clear hm
              have hw : Below C.heap.size C (C.alloc (.cells #[.int .u8 (t : Nat), .slice (some ⟨gx, 0, none⟩) m m] 47)) := (Below.refl C.heap.size C).alloc (Nat.le_refl _) _
              have hK' := hide (hK (Ac C.heap.size (.int .i64 (at_ : Nat)) (.agg #[.int .u8 (t : Nat), .slice (some ⟨gx, 0, none⟩) m m])) _ ((KeepsOthers.alloc _ _).from _) (same_below hw)
                ⟨col_below hc (Nat.le_refl _) hw, by have := hw.size; omega, hpl, come_keepTy hcm (keepTy_below hw 5), C.heap.size, rfl, heap_new rfl _⟩)
              clear hK hc hcm hw
              subst hAc
              dsimp only [itEnc]
              gi_wp2_with fail
              exact hK'.out
            case body =>
              rintro l pre ⟨at_, t, v, body⟩ a' W ⟨h, h2, hpl, h3, bb, rfl, hbb⟩
              obtain ⟨a2, k2, b2, i2⟩ := h.blks
              have HC := hide h
              have HCM := hide h3
              have hzW := h.below.size
              have e1 := b2.cell
              have f1 := b2.frozen
              have n2 : (pre.map (·.2)).length = pre.length := by simp
              have HI2 := hide i2
              have HBX2 := hide b2
              have HLE := hide (show (pre.map fun (z : Itm) => z.2).length ≤ 1099511627776 by
                rw [n2]; omega)
              obtain ⟨d0, d1⟩ := cells2 hbb
              subst hAc
              dsimp only at hbb d0 d1 ⊢
              have HBB := hide hbb
              clear h h3 i2 b2 hbb
              have hq4 : Below W.heap.size W (W.alloc (.cells #[.int .u8 (t : Nat), v] 47)) := (Below.refl _ _).alloc (Nat.le_refl _) _
              have HI4 := hide (bfam_below HI2.out hq4)
              have HM4 := hide (come_keepTy HCM.out (keepTy_below hq4 5))
              have hz4 := hq4.size
              have HH4 := hide (heap_new (w := W) rfl (.cells #[.int .u8 (t : Nat), v] 47))
              clear hq4
              have HAP := hide (fun (y : It) (hy : y ∈ pre.map fun (z : Itm) => z.2) (g : Nat) (hg : y.2.1.ownBlock = some g) => (by obtain ⟨z, hz, rfl⟩ := List.mem_map.1 hy; exact HM4.out.apart z hz g hg : v.ownBlock ≠ some g))
              have HBE := hide (show w11.heap.size ≤ (W.alloc (.cells #[.int .u8 (t : Nat), v] 47)).heap.size by omega)
              gi_wp2_with (refine append_blkI _ w11.heap.size W.heap.size (.slice a2 pre.length k2) (pre.map fun (z : Itm) => z.2) (t, v, body) rfl (.tmp 101) (.tmp 103) rfl rfl rfl HI4.out HM4.out.tag HM4.out.own HM4.out.lt HAP.out HH4.out HLE.out HBE.out ?_)
              intro g2 cap2 wb hob hgb
              obtain ⟨hv1, hv2, hr2, hko, hbw⟩ := HBX2.out.appended (by decide) HI2.out.1 (by omega) (by omega) hob.1 hgb
              have hc1 := hv1.cell
              have hf1 := hv1.frozen
              have HV5 := hide hv2
              have HB5 := hide hbw
              have HO5 := hide hko
              have HX5 := hide (show BFam (wb.setCell ⟨P3, 0, none⟩ (.slice (some ⟨g2, 0, none⟩) (pre.length + 1) cap2)) w11.heap.size (.slice (some ⟨g2, 0, none⟩) (pre.length + 1) cap2) (pre.map (fun (z : Itm) => z.2) ++ [(t, v, body)]) from by
                have hob' := hob
                try rw [n2] at hob'
                exact ⟨row_keepTy hob'.1 (keepTy_grown (grownBy_setCell' wb P3 _) (notTy_box hv1 (by decide))), hob'.2.1, fam_keepTy hob'.2.2 (keepTy_grown (grownBy_setCell' wb P3 _) (notTy_box hv1 (by decide)))⟩)
              clear hv1 hv2 hr2 hko hbw hgb hob e1 f1 d0 d1
              gi_wp2_with fail
              have hn2 : (pre ++ [((at_, t, v, body) : Itm)]).length = pre.length + 1 := by simp
              have hp2 : (pre ++ [(at_, t, v, body)]).map (fun (z : Itm) => z.2) = pre.map (fun (z : Itm) => z.2) ++ [(t, v, body)] := by simp
              refine ⟨HO5.out.from _, same_under HB5.out (by rintro k (h | rfl | rfl) <;> omega), ⟨⟨some ⟨g2, 0, none⟩, cap2, ?_, ?_⟩, HC.out.below.trans HB5.out⟩, by have := HB5.out.size; omega⟩
              · rw [hn2]; exact HV5.out
              · rw [hn2, hp2]
                exact HX5.out
            case stop =>
              rintro D c pre W hD hS h
              exact h.elim
            case done =>
              rintro D3 xs3 w13 hD3 ⟨e1, e2⟩ ⟨h, h2⟩ hK
              have hq3 : D3 < w13.heap.size := heap_lt hK
              rw [HSC.out] at e2
              have HXS3 := hide e2
              have HKD3 := hide hK
              have HCO3 := hide h
              have zw13 := h.below.size
              clear e1 e2 h hK HCL HTE
              subst hAc
              have hb1113 := HCO3.out.below
              have HB13 := hide (HB11.out.trans (hb1113.mono z11))
              obtain ⟨a3, c3, b3, i3⟩ := HCO3.out.blks
              have l3 : xs3.length = bl.length := by have := congrArg List.length HXS3.out; simpa [bds] using this.symm
              have o3 : blOf (xs3.map (fun (z : Itm) => z.2)) = bl := by
                have h : bl = bds xs3 := HXS3.out
                rw [h]
                simp [blOf, bds]
              have X3 := bown_blocks (bfam_bown i3)
              rw [o3, l3] at X3
              rw [l3] at b3
              have c105 := b3.cell
              have HM := hide (show Marks w13 w.heap.size [D3, D2, D1] from
                marks_cons (marks_cons (marks_cons (marks_nil _ _) ((hb1113.block _ hD11).trans HD111.out) (by simp) (by omega)) ((hb1113.block _ hD21).trans HD211.out) (by simp; omega) (by omega)) HKD3.out (by simp; omega) (by omega))
              have HSB := hide (same_blocks w13 _ _ bl X3 (blocks_keep HV.out HB13.out) (by omega))
              have zw13 := HB13.out.size
              clear hb1113 b3 i3 l3 o3 X3 HKD3
              go_wp2_with fail
              refine HSB.out.mono ?_
              rintro e w' ⟨rfl, q3, rfl⟩
              go_wp2_with fail
              refine leaves_marks [D3, D2, D1] _ (show Marks (w13.drewN q3) _ _ from HM.out) zw13 (fun W' hp => ?_)
              refine (show LeavesInM _ _ _ _ _ _ [] .returning W' from ⟨.bool true, ?_, rfl, (below_drewN HB13.out q3).trans hp.1⟩)
              simp [results, Tryd.f15, go_sem]

/-! the frame, by program -/
set_option maxRecDepth 100000 in
theorem contract (H : Type) (enc : TypeId × Value → H) (W : World) (base : Nat) (args : Array Value) (ds gs : List (DataW H)) (before : List MemPlace)
    (hval : ∀ (j : Nat) t v, Tryd.f15.params[j]? = some t → args[j]? = some v → Value.okWide Tryd.prog W .any base t v)
    (hW : DataW.Whole enc Tryd.prog Tryd.f15.params.toList Rows.frameOwnsScanSpec.vars false W args.toList ds gs before) (hL : laidMetH Tryd.prog Rows.frameOwnsScanRow.laid W)
    (hsz : (DataW.weightsEach Tryd.prog (Tryd.f15.params.toList ++ []) (ds ++ gs)).all (· ≤ reachBytes) = true) (hk : Rows.uptoSmall H (ds ++ gs) = true) :
    Calls Tryd.prog 15 args W fun e W' => ∃ v, e = .returned v ∧ Rows.frameOwnsScanSpec.post enc Tryd.prog Tryd.f15 false true false false W args v W' := by
  have hW' := hW
  obtain ⟨p, q, hA0, hV, rfl, hfz, hnd⟩ := hW
  have hA : DataW.TrodAll enc Tryd.prog W 0 (fun _ => true) true Tryd.f15.params.toList args.toList ds p := hA0
  rw [Tryd.params15] at hA hval hsz
  obtain ⟨v0, vs0, d0, ds0, p0, q0, hargs, rfl, rfl, h0, r0⟩ := trodAll_cons hA
  obtain ⟨rfl, rfl, rfl⟩ := trodAll_nil r0
  obtain rfl : args = #[v0] := by cases args; simp_all
  obtain ⟨rfl, rfl⟩ := trodVars_none hV
  obtain ⟨b0, s0, g0⟩ := open_blocks (hval 0 38 v0 rfl rfl) h0
  have e0 := small_tot hk (j := 0) rfl g0
  clear hA0
  simp only [List.append_nil] at hW'
  have hl : laidMet Tryd.prog Rows.frameOwnsScanRow.laid W := hL
  obtain ⟨Z, hg⟩ := zip_of_mem hl (by simp [Rows.frameOwnsScanRow])
  have hreads : ∀ g ∈ ([0, 1, 2, 6] : List Nat), ErrRead W g := by
    intro g hg
    simp only [List.mem_cons, List.not_mem_nil, or_false] at hg
    rcases hg with rfl | rfl | rfl | rfl
    · exact read0 hl (by simp [Rows.frameOwnsScanRow])
    · exact read1 hl (by simp [Rows.frameOwnsScanRow])
    · exact read2 hl (by simp [Rows.frameOwnsScanRow])
    · exact read6 hl (by simp [Rows.frameOwnsScanRow])
  obtain ⟨E, hE⟩ := errs_of_reads hreads (by decide +kernel)
  have hg2 := World.block_lt_of_cell? W _ (hE.cell 6 (by decide))
  simp only at hg2
  refine (walk W Z E hE (by omega) _ b0 s0 (by omega)).mono fun e W' ⟨he, hb⟩ => ?_
  subst he
  exact ⟨_, rfl, law_post hW' rfl rfl rfl (by kernel_rfl) hb⟩

noncomputable def laidWorld (os : Os) : World := World.doorLaid Tryd.prog 475 os
noncomputable def wargs : Array Value := #[.slice none 0 0]
theorem laid_met (os : Os) : laidMetH Tryd.prog Rows.frameOwnsScanRow.laid ((laidWorld os).forCall (fun _ _ => 0) ⟨#[], wargs, []⟩).memory :=
  laidMetH_of_parts3 (fuel := 8) (laidMet_of_run' 8 (by kernel_rfl) (by kernel_rfl)) (by kernel_rfl) (by kernel_rfl)
theorem reads (os : Os) {H : Type} (enc : TypeId × Value → H) : ∃ places, DataW.whole enc Tryd.prog ((laidWorld os).forCall (fun _ _ => 0) ⟨#[], wargs, []⟩).memory Tryd.f15.params.toList Rows.frameOwnsScanSpec.vars false wargs.toList 8 = some ([.nil], [], places) :=
  ⟨[], by kernel_rfl⟩

set_option maxRecDepth 100000 in
theorem lifted (os : Os) (started : os.Started) (H : Type) (enc : TypeId × Value → H) (F : Stop.Interp) :
    ReturnsInHanded {} Tryd.checked os 15 .any ((Rows.OpenSpec.upto Rows.frameOwnsScanSpec).preRow enc Tryd.prog Tryd.f15 Rows.frameOwnsScanUptoRow.domain false Rows.frameOwnsScanUptoRow.laid) (((Rows.OpenSpec.upto Rows.frameOwnsScanSpec).at F).post enc Tryd.prog Tryd.f15 false true false false) := by
  obtain ⟨places, hx⟩ := reads os enc
  refine returnsInHanded_of_row (C := Tryd.checked) (s := Rows.OpenSpec.upto Rows.frameOwnsScanSpec) own started (by kernel_rfl) Tryd.func15
    (witness_row_atRef (enc := enc) (C := Tryd.checked) false (laidWorld os) wargs rfl (by kernel_rfl) (by kernel_rfl) (by kernel_rfl)
      (OpenSpec.preRow_of_cond 8 hx (by kernel_rfl) (fun k hk => by cases hk; kernel_rfl) (by kernel_rfl) (laid_met os))) ?_
  intro W base args ds gs before hval hW _ hcond hsz hL _ _
  exact contract H enc W base args ds gs before hval hW hL hsz (hcond _ rfl)

theorem fact0 : (Rows.frameOwnsScanUptoRow.wf (OpenSpec.ofChange (Rows.OpenSpec.upto Rows.frameOwnsScanSpec).bare)) = true := by kernel_rfl
theorem fact3 : (Tryd.f15.params.all (Tryd.prog.readableRec ·)) = true := by kernel_rfl
theorem fact4 : (namedTie Tryd.prog Rows.frameOwnsScanUptoRow.named (Rows.OpenSpec.upto Rows.frameOwnsScanSpec).bare.vars) = true := by kernel_rfl
theorem fact5 : ((Rows.frameOwnsScanUptoRow.stops == [])) = true := by kernel_rfl
theorem fact7 : ((Rows.frameOwnsScanUptoRow.knobs == [])) = true := by kernel_rfl
theorem fact9 : ((Rows.frameOwnsScanUptoRow.inPlace == Tryd.prog.inPlace 15)) = true := by kernel_rfl
theorem fact10 : ((Rows.frameOwnsScanUptoRow.unfollowed == Tryd.prog.unfollowed 15)) = true := by kernel_rfl
theorem fact11 : ((Rows.frameOwnsScanUptoRow.recurses == Tryd.prog.recurses 15)) = true := by kernel_rfl
theorem fact12 : ((Rows.frameOwnsScanUptoRow.named == Tryd.prog.varsNamed 15)) = true := by kernel_rfl
theorem fact13 : ((Rows.frameOwnsScanUptoRow.maps == (Tryd.f15.params.toList ++ (Rows.OpenSpec.upto Rows.frameOwnsScanSpec).bare.plain.varTypes Tryd.prog).any (Tryd.prog.mapsRec ·))) = true := by kernel_rfl
theorem fact14 : ((Rows.frameOwnsScanUptoRow.ifaces == (Tryd.f15.params.toList ++ (Rows.OpenSpec.upto Rows.frameOwnsScanSpec).bare.plain.varTypes Tryd.prog).any (Tryd.prog.ifacesRec ·))) = true := by kernel_rfl
theorem fact15 : ((Rows.frameOwnsScanUptoRow.mapsOut == Tryd.prog.mapsAmong Tryd.f15.resultTypes.toList)) = true := by kernel_rfl
theorem fact16 : ((Rows.frameOwnsScanUptoRow.loops == (Tryd.f15.params.toList ++ (Rows.OpenSpec.upto Rows.frameOwnsScanSpec).bare.plain.varTypes Tryd.prog).any (Tryd.prog.loopsFrom ·))) = true := by kernel_rfl
theorem fact17 : ((Rows.frameOwnsScanUptoRow.wideKeys == (Tryd.f15.params.toList ++ (Rows.OpenSpec.upto Rows.frameOwnsScanSpec).bare.plain.varTypes Tryd.prog ++ Tryd.f15.resultTypes.toList).any (Tryd.prog.wideKeysFrom ·))) = true := by kernel_rfl
theorem fact18 : ((Rows.OpenSpec.upto Rows.frameOwnsScanSpec).bare.vars.all (Tryd.prog.varReadable ·)) = true := by kernel_rfl
theorem fact19 : (Tryd.f15.resultTypes.all (fun t => Tryd.prog.readableRec t && decide (t < Tryd.prog.types.size))) = true := by kernel_rfl
theorem fact20 : ((Rows.frameOwnsScanUptoRow.ifacesOut == Tryd.f15.resultTypes.toList.any (Tryd.prog.ifacesRec ·))) = true := by kernel_rfl
theorem fact21 : ((Rows.frameOwnsScanUptoRow.loopsOut == Tryd.f15.resultTypes.toList.any (Tryd.prog.loopsFrom ·))) = true := by kernel_rfl
theorem fact22 : ((Rows.frameOwnsScanUptoRow.plainKeys == Tryd.prog.plainKeys)) = true := by rw [Tryd.keys]; kernel_rfl
theorem fact23 : (Rows.frameOwnsScanUptoRow.shortTexts.isNone) = true := by kernel_rfl
theorem fact26 : ((Rows.frameOwnsScanUptoRow.lifted == Tryd.prog.liftsFinal)) = true := by rw [Tryd.lifts]; kernel_rfl
theorem fact27 : ((Tryd.prog.make == some Rows.frameOwnsScanUptoRow.make)) = true := by rw [Tryd.makes]; kernel_rfl
theorem fact29 : ((Rows.frameOwnsScanUptoRow.pinned == Rows.frameOwnsScanUptoRow.pinnedBy)) = true := by kernel_rfl
theorem fact30 : ((Rows.frameOwnsScanUptoRow.veiled == (Tryd.f15.params.toList ++ (Rows.OpenSpec.upto Rows.frameOwnsScanSpec).bare.plain.varTypes Tryd.prog ++ Tryd.f15.resultTypes.toList).any (Tryd.prog.veiledRec ·))) = true := by kernel_rfl
theorem fact31 : (Rows.frameOwnsScanUptoRow.veiledFits Tryd.prog Tryd.f15.params.toList (Tryd.f15.params.toList ++ (Rows.OpenSpec.upto Rows.frameOwnsScanSpec).bare.plain.varTypes Tryd.prog ++ Tryd.f15.resultTypes.toList)) = true := by kernel_rfl
theorem closed : joinedFacts Tryd.prog 15 Tryd.f15 (Rows.OpenSpec.upto Rows.frameOwnsScanSpec).bare Rows.frameOwnsScanUptoRow = true :=
  facts_of fact0 Tryd.laidOut Tryd.rowed fact3 fact4 fact5 Tryd.noStops fact7 Tryd.noKnobs fact9 fact10 fact11 fact12 fact13 fact14 fact15 fact16 fact17 fact18 fact19 fact20 fact21 fact22 fact23 Tryd.heard Tryd.mayEnter fact26 fact27 (by kernel_rfl) fact29 fact30 fact31
theorem named : Tryd.prog.funcNamed Rows.frameOwnsScanUptoRow.func = some 15 := by kernel_rfl
theorem instanced : Tryd.f15.isInstance Tryd.prog Rows.frameOwnsScanUptoRow.origin Rows.frameOwnsScanUptoRow.targs := of_decide_eq_true (by kernel_rfl)
theorem wrapped : Tryd.f15.isWrapper Tryd.prog Rows.frameOwnsScanUptoRow.wrapper Rows.frameOwnsScanUptoRow.mainSum := by unfold Func.isWrapper; first | (rw [if_pos (by decide +kernel)]; kernel_rfl) | (rw [if_neg (by decide +kernel)]; exact ⟨rfl, rfl⟩)
theorem said : Rows.FrameOwnsScanUptoSaid :=
  OpenClaim.holds_of_cond 15 Tryd.f15 rfl rfl rfl rfl rfl rfl rfl ⟨rfl, rfl, rfl, rfl, rfl⟩ rfl rfl rfl rfl rfl named Tryd.func15 closed
    instanced wrapped
    (fun os started H enc _ F => by rw [OpenClaim.pre_eq_preRow]; exact lifted os started H enc F)

theorem plain (f : FuncId) (fn : Func) (hf : Tryd.pinned.checked.prog.funcNamed "concord/concordlaw02.FrameOwnsScan" = some f) (hfn : Tryd.pinned.checked.prog.funcs[f]? = some fn) :
    true = Tryd.pinned.checked.prog.looks [] ∧ ∀ (j : Nat) t, fn.params[j]? = some t → Tryd.pinned.checked.prog.wantsStandIn t = false := by
  obtain rfl : f = 15 := Option.some.inj ((show Tryd.prog.funcNamed "concord/concordlaw02.FrameOwnsScan" = some 15 by kernel_rfl).symm.trans hf) |>.symm
  obtain rfl : fn = Tryd.f15 := (Option.some.inj (Tryd.func15.symm.trans hfn)).symm
  have hall : Tryd.f15.params.toList.all (fun t => !Tryd.pinned.checked.prog.wantsStandIn t) = true := by kernel_rfl
  refine ⟨by kernel_rfl, fun j t ht => ?_⟩
  have := List.all_eq_true.1 hall t (by simpa using Array.mem_of_getElem? ht)
  simpa using this

/-- THE CARD -/
theorem card : Rows.FrameOwnsScanUptoCardSaid :=
  Claim7.holds_tied_plain_at .later [] _ _ _ _ said (fun _ h => by cases h) (by kernel_rfl) (fun _ h => by cases h) frameOwnsScanUpto_row_tie rfl ⟨rfl, rfl⟩ (by kernel_rfl) rfl plain (by kernel_rfl)
end Go.Proofs.YtgebekklkodpaaaDoor.frameOwnsScan
