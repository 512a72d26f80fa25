/- Proved: for every list of blocks and every list of bytes (up to the Upto row's bulk), FrameChains returns true (Scan of blocks' bytes one behind the other, with a byte 0 and anything behind them, tells these blocks, each where the one ahead of it ends), and nothing that lay in memory ahead of the call has changed. Conditions: the package variables that the row lists (four errors, frame.zipTable) hold what their initialisers lay; the card ties that to the text. -/
import Derived.Test.YtgebekklkodpaaaDoorAk
import Derived.Test.YtgebekklkodpaaaDoorPk
import Derived.Test.YtgebekklkodpaaaDoorUpto
import Derived.Test.YtgebekklkodpaaaDoorTies
import Derived.Deep.DeepWitnessRowRef
import Derived.Test.YtgebekklkodpaaaDoorOpenBl
namespace Go.Proofs.YtgebekklkodpaaaDoor.frameChains
open Go.ChangeShapes Go.WideShapes Go.ChangeAt Go.RowKit Go.Proofs.YtgebekklkodpaaaDoor

theorem take_succ' {bl : List Bl} {i : Nat} {x : Bl} (h : bl[i]? = some x) : bl.take (i + 1) = bl.take i ++ [x] := by
  rw [List.take_add_one, h]
  rfl
theorem encs_take {bl : List Bl} (i : Nat) : (encs (bl.take i)).length ≤ tot bl := Nat.le_trans (encs_len _) (tot_take bl i)

theorem len_encs (bl : List Bl) : bl.length ≤ (encs bl).length := by
  induction bl with
  | nil => simp
  | cons x r ih =>
    have := enc_length x.1 x.2
    simp only [encs, List.flatMap_cons, List.length_append, List.length_cons] at *
    omega

set_option maxRecDepth 100000 in
set_option maxHeartbeats 4000000 in
theorem walk (w : World) (Z : Zip w) (E : Nat → Addr) (hE : Errs w E dErrs) (hg : 17 ≤ w.heap.size) (v vr : Value) (bl : List Bl) (rest : List Nat) (hv : Blocks w v bl) (hr : Src w vr rest) (hl : tot bl ≤ 15728640) (hlr : rest.length ≤ 1048576) :
    Calls Tryd.prog 14 #[v, vr] w fun e w' => e = .returned (.bool true) ∧ Below w.heap.size w w' := by
  obtain ⟨ao, cap, rfl⟩ := blocks_form' hv
  obtain ⟨ar, cr, rfl⟩ := src_form hr
  have hlen := len_tot bl
  have hok : ∀ x ∈ bl, x.1 < 256 ∧ (∀ y ∈ x.2, y < 256) ∧ x.2.length < 18446744073709551616 := by
    obtain ⟨ao', cap', hvv, hBB⟩ := blocks_form hv
    exact blocks_ok hBB (by omega)
  have HOK := hide hok
  have HZ := hide Z
  have HE := hide hE
  have HV := hide hv
  have HR := hide hr
  clear Z hE hv hr hok
  go_enter Tryd.func14, Tryd.ntmps14
  go_wp2_with fail
  refine (lives_any w HZ.out (by omega)).mono ?_
  rintro e w1 ⟨rfl, hb1⟩
  have HB1 := hide hb1
  have z1 := hb1.size
  clear hb1
  have c1 : Own ((w1.alloc (.cells #[] 5)).alloc (.cells #[.int .i64 0] 3)) w.heap.size (.slice (some ⟨w1.heap.size, 0, none⟩) 0 0) (encs (bl.take 0)) := row_keepTy (row_mono (own_lit w1 w1.heap.size [] (Nat.le_refl _) (by simp) #[] rfl) z1) (keepTy_below ((Below.refl _ _).alloc (Nat.le_refl _) _) 5)
  have c2 : IOwn ((w1.alloc (.cells #[] 5)).alloc (.cells #[.int .i64 0] 3)) w.heap.size (.slice (some ⟨(w1.alloc (.cells #[] 5)).heap.size, 0, none⟩) 1 1) (plcs 0 (bl.take 0) ++ [(encs (bl.take 0)).length]) := by
    have h := World.ownsRow_lit (base := w.heap.size) (e := 3) (size := 1) (w1.alloc (.cells #[] 5)) #[.int .i64 0] 1 (by simp; omega) (by simp [maxLen]) (by simp)
    simpa [IOwn, i64s, plcs, encs] using h
  rw [World.size_alloc] at c2
  have C1 := hide c1
  have C2 := hide c2
  have HBA := hide (((HB1.out.alloc z1 (.cells #[] 5)).alloc (by simp; omega) (.cells #[.int .i64 0] 3)))
  clear c1 c2
  go_wp2_with fail
  go_loopw [5, 6, 19] (fun s5 s6 c wr => ∃ i : Nat, i ≤ bl.length ∧ c = .int .i64 i ∧ Own wr w.heap.size s5 (encs (bl.take i)) ∧ IOwn wr w.heap.size s6 (plcs 0 (bl.take i) ++ [(encs (bl.take i)).length]) ∧ (∀ x ∈ bl.take i, x.1 ≠ 0) ∧ Below w.heap.size w wr) (fun _ _ c _ => bl.length - (intOf c).toNat)
  case atStart => exact ⟨0, by omega, rfl, C1.out, C2.out, by simp, HBA.out⟩
  case round =>
    obtain ⟨i, hi, rfl, ho, hio, hno, hb⟩ := hrel
    obtain ⟨ns, hns⟩ : ∃ ns, plcs 0 (bl.take i) ++ [(encs (bl.take i)).length] = ns := ⟨_, rfl⟩
    rw [hns] at hio
    have hnl : ns.length ≤ bl.length + 1 := by rw [← hns, List.length_append, plcs_len]; simp; omega
    have HNS := hide hns
    clear hns
    have HO := hide ho
    have HI := hide hio
    have HN := hide hno
    have HB := hide hb
    have hsr := hb.size
    obtain ⟨a5, k5, rfl⟩ := row_shape ho
    obtain ⟨a6, k6, rfl, k61, k62⟩ := iown_shape hio
    clear ho hio hno hb
    by_cases hlt : i < bl.length
    · obtain ⟨x, hx⟩ : ∃ x, bl[i]? = some x := ⟨_, List.getElem?_eq_getElem hlt⟩
      obtain ⟨ad, bv, rfl, c0, c1, hs1⟩ := blocks_get (blocks_keep HV.out HB.out) hx
      have hi1 : (i : Int) < (bl.length : Int) := by omega
      have hxm := HOK.out x (List.mem_of_getElem? hx)
      have htk := take_succ' hx
      have hge := get_tot (List.mem_of_getElem? hx)
      have hq : Below wr.heap.size wr (wr.alloc (.cells #[.int .u8 (x.1 : Nat), bv] 47)) := (Below.refl _ _).alloc (Nat.le_refl _) _
      obtain ⟨d0, d1⟩ := cells2 (heap_new (w := wr) rfl (.cells #[.int .u8 (x.1 : Nat), bv] 47))
      have HB2 := hide (HB.out.trans (hq.mono hsr))
      have HS2 := hide (src_keep hs1 hq)
      have HO2 := hide (row_keepTy HO.out (keepTy_below hq 5))
      have HI2 := hide (row_keepTy HI.out (keepTy_below hq 3))
      have HX := hide hx
      have HTK := hide htk
      have HXM := hide hxm
      obtain ⟨a1, k1, rfl⟩ := src_form hs1
      have z2 := HB2.out.size
      clear hx hxm htk hs1 hq
      obtain ⟨t, body⟩ := x
      dsimp only at c0 c1 d0 d1 HB2 HS2 HO2 HI2 HX HTK HXM z2 hge ⊢
      by_cases ht : t = 0
      · subst ht
        go_wp2_with fail
        go_ret
        exact ⟨rfl, HB2.out⟩
      · have ht1 : ((t : Int) == 0) = false := by simp; omega
        have hel := enc_len t body
        have HEN := hide (encode_pos _ (zip_below HZ.out HB2.out (by omega)) (by omega) t HXM.out.1 ht _ body HS2.out (by omega))
        go_wp2_with fail
        refine HEN.out.mono ?_
        rintro e w3 ⟨g3, rfl, hg3, hh3, hb3⟩
        have hx3 := src_block hh3 (enc_lt HXM.out.1 HXM.out.2.1 (by rw [Uv.u64_eq]; have := HXM.out.2.2; omega)) (by omega)
        have HX3 := hide hx3
        have HB3 := hide (HB2.out.trans (hb3.mono z2))
        have HO3 := hide (row_keepTy HO2.out (keepTy_below hb3 5))
        have HI3 := hide (row_keepTy HI2.out (keepTy_below hb3 3))
        have z3 := HB3.out.size
        have hle := encs_take (bl := bl) i
        have hcl : (encs (bl.take i)).length + (enc t body).length ≤ 140737488355328 := by omega
        have HCL := hide hcl
        clear hh3 hx3 hb3 hg3 HEN hcl
        go_wp2_with (refine append_srcK w w3 w.heap.size _ _ (encs (bl.take i)) (enc t body) rfl (.tmp 36) (.tmp 37) rfl rfl rfl HO3.out HX3.out HCL.out z3 HB3.out ?_)
        intro v5 w5 ho5 hb5 hk5
        have he5 : encs (bl.take i) ++ enc t body = encs (bl.take (i + 1)) := by rw [HTK.out, encs_app, encs_one]
        rw [he5] at ho5
        obtain ⟨a7, k7, rfl⟩ := row_shape ho5
        have z5 := hb5.size
        have hq6 : Below w5.heap.size w5 (w5.alloc (.cells #[.int .i64 ((encs (bl.take (i + 1))).length : Nat)] 3)) := (Below.refl _ _).alloc (Nat.le_refl _) _
        have HO6 := hide (row_keepTy ho5 (keepTy_below hq6 5))
        have HI6 := hide (row_keepTy (row_keepTy HI3.out (hk5 3 (by decide))) (keepTy_below hq6 3))
        have HB6 := hide (hb5.trans (hq6.mono z5))
        have z6 := HB6.out.size
        have HLL := hide (show ns.length ≤ 1099511627776 by omega)
        clear ho5 hb5 hk5 hq6 HO3 HI3 HX3 HO2 HI2
        have hw64 : (encs (bl.take (i + 1))).length ≤ 140737488355328 := by have := encs_take (bl := bl) (i + 1); omega
        go_wp2_with (refine append_intK w _ w.heap.size w5.heap.size (encs (bl.take (i + 1))).length _ ns rfl (.tmp 39) (.tmp 42) rfl rfl rfl HI6.out (heap_new rfl _) HLL.out z6 HB6.out ?_)
        intro v7 w7 ho7 hb7 hk7
        have HO7 := hide (row_keepTy HO6.out (hk7 5 (by decide)))
        have HI7 := hide ho7
        have HB7 := hide hb7
        clear ho7 hb7 hk7
        go_wp2_with fail
        refine ⟨⟨i + 1, by omega, by simp, HO7.out, ?_, ?_, HB7.out⟩, by simp [intOf]; omega⟩
        · have h := HI7.out
          have e : ns = plcs 0 (bl.take (i + 1)) := by rw [← HNS.out, HTK.out, plcs_snoc]; simp
          rw [e] at h
          exact h
        · intro y hy
          rw [HTK.out] at hy
          rcases List.mem_append.1 hy with hy | hy
          · exact HN.out y hy
          · simp at hy
            subst hy
            exact ht
    · obtain rfl : i = bl.length := by omega
      rw [List.take_length] at *
      have hns1 : ns.length = bl.length + 1 := by rw [← HNS.out, List.length_append, plcs_len]; rfl
      obtain ⟨g6, cc6, hform⟩ : ∃ g c, Value.slice a6 ns.length k6 = .slice (some ⟨g, 0, none⟩) ns.length c := by
        rcases HI.out.2 with ⟨h, _⟩ | ⟨g, c, cur, h, _⟩
        · simp only [Value.slice.injEq] at h
          omega
        · exact ⟨g, c, h⟩
      simp only [Value.slice.injEq, true_and] at hform
      obtain ⟨rfl, rfl⟩ := hform
      have hq : Below wr.heap.size wr (wr.alloc (.cells #[.int .u8 0] 5)) := (Below.refl _ _).alloc (Nat.le_refl _) _
      have HO1 := hide (row_keepTy HO.out (keepTy_below hq 5))
      have HI1 := hide (row_keepTy HI.out (keepTy_below hq 3))
      have HB1' := hide (HB.out.trans (hq.mono hsr))
      have HZ1 := hide (mark_src wr 0 0 (by omega))
      have z1' := HB1'.out.size
      have hel := encs_len bl
      have HC1 := hide (show (encs bl).length + [0].length ≤ 140737488355328 by simp; omega)
      clear hq
      go_wp2_with (refine append_srcK w _ w.heap.size _ _ (encs bl) [0] rfl (.tmp 45) (.tmp 46) rfl rfl rfl HO1.out HZ1.out HC1.out z1' HB1'.out ?_)
      intro v2 w2 ho2 hb2 hk2
      have z2 := hb2.size
      have HO2 := hide ho2
      have HI2 := hide (row_keepTy HI1.out (hk2 3 (by decide)))
      have HB2 := hide hb2
      have HR2 := hide (src_keep HR.out hb2)
      have HC2 := hide (show (encs bl ++ [0]).length + rest.length ≤ 140737488355328 by simp; omega)
      clear ho2 hb2 hk2 HO1 HI1 HB1' HZ1
      go_wp2_with (refine append_srcK w w2 w.heap.size v2 _ (encs bl ++ [0]) rest rfl (.tmp 48) (.tmp 49) rfl rfl rfl HO2.out HR2.out HC2.out z2 HB2.out ?_)
      intro v3 w3 ho3 hb3 hk3
      have z3 := hb3.size
      have hall : encs bl ++ [0] ++ rest = encs bl ++ 0 :: rest := by simp
      try rw [hall] at ho3
      have hnz : ∀ x ∈ bl, x.1 ≠ 0 ∧ x.1 < 256 ∧ (∀ y ∈ x.2, y < 256) ∧ x.2.length < 18446744073709551616 := fun x hx => ⟨HN.out x hx, HOK.out x hx⟩
      have hsc := scan_encs bl ((encs bl ++ 0 :: rest).length + 1) 0 rest (by have := len_encs bl; simp; omega) hnz
      have h256 : ∀ x ∈ encs bl ++ 0 :: rest, x < 256 := by
        intro x hx
        rcases List.mem_append.1 hx with h | h
        · exact encs_lt (fun x hx => by have := HOK.out x hx; rw [Uv.u64_eq]; exact this) x h
        · rcases List.mem_cons.1 h with rfl | h
          · omega
          · exact HR.out.1 x h
      have HS3 := hide (own_src ho3 h256)
      have HI3 := hide (row_keepTy HI2.out (hk3 3 (by decide)))
      have HB3 := hide hb3
      have HE3 := hide (HE.out.below hb3 (Nat.le_refl _) (dErrs_lt hg))
      have hal : (encs bl ++ 0 :: rest).length ≤ 100000000 := by simp; omega
      have hsd := scanned_any w3 (zip_below HZ.out hb3 (by omega)) E (HE3.out.cell 0 (by decide)) (HE3.out.cell 1 (by decide)) (HE3.out.cell 2 (by decide)) (HE3.out.cell 6 (by decide)) (by omega) v3 _ HS3.out (bl.length + 1) (by omega) hal
      rw [hsc] at hsd
      dsimp only at hsd
      rw [List.take_of_length_le (by rw [plcs_len]; omega), List.take_of_length_le (by omega)] at hsd
      have he1 : ((bl.length + 1 : Nat) : Int) = (bl.length : Int) + 1 := by omega
      rw [he1] at hsd
      have HSD := hide hsd
      clear ho3 hb3 hk3 hsc hsd h256 hal hnz HO2 HI2 HB2 he1 hall
      go_wp2_with fail
      refine HSD.out.mono ?_
      rintro e w4 ⟨v4, u4', its, rfl, hi4, hf4, hbl4, hb4⟩
      have HB4 := hide (HB3.out.trans (hb4.mono z3))
      have HT4 := hide (iown_ints hi4)
      have HF4 := hide (show Blocks w4 u4' bl by rw [← hbl4]; exact bown_blocks (bfam_bown hf4))
      have HI4 := hide (row_keepTy HI3.out (keepTy_below hb4 3))
      have HV4 := hide (blocks_keep HV.out HB4.out)
      have hin := ints_take (iown_ints HI4.out) bl.length (by omega) k6
      have hpl : ns.take bl.length = plcs 0 bl := by rw [← HNS.out, List.take_left' (plcs_len 0 bl)]
      rw [hpl] at hin
      have HIN := hide hin
      have HNS1 := hide hns1
      have y1 : (bl.length : Int) ≤ (ns.length : Int) := by omega
      have y2 : (bl.length : Int) ≤ (k6 : Int) := by omega
      have y5 : (bl.length : Int) + 1 ≤ (k6 : Int) := by omega
      have y3 : k6 ≠ 0 := by omega
      have y4 : bl.length ≤ k6 := by omega
      clear hi4 hf4 hbl4 hb4 hin hpl hns1 HSD HS3
      go_wp2_with fail
      refine (same_ints w4 _ _ (plcs 0 bl) HT4.out HIN.out (by rw [plcs_len]; omega)).mono ?_
      rintro e w' ⟨rfl, q, rfl⟩
      have HB5 := hide (below_drewN HB4.out q)
      have HSB := hide (same_blocks (w4.drewN q) _ _ bl (blocks_keep HF4.out (below_drewN (Below.refl w4.heap.size w4) q)) (blocks_keep HV4.out (below_drewN (Below.refl w4.heap.size w4) q)) (by omega))
      go_wp2_with fail
      refine HSB.out.mono ?_
      rintro e w' ⟨rfl, q2, rfl⟩
      go_wp2
      go_ret
      exact ⟨rfl, below_drewN HB4.out (q + q2)⟩

/-! the frame, by program -/
set_option maxRecDepth 100000 in
theorem contract (H : Type) (enc : TypeId × Value → H) (W : World) (base : Nat) (args : Array Value) (ds gs : List (DataW H)) (before : List MemPlace)
    (hval : ∀ (j : Nat) t v, Tryd.f14.params[j]? = some t → args[j]? = some v → Value.okWide Tryd.prog W .any base t v)
    (hW : DataW.Whole enc Tryd.prog Tryd.f14.params.toList Rows.frameChainsSpec.vars false W args.toList ds gs before) (hL : laidMetH Tryd.prog Rows.frameChainsRow.laid W)
    (hsz : (DataW.weightsEach Tryd.prog (Tryd.f14.params.toList ++ []) (ds ++ gs)).all (· ≤ reachBytes) = true) (hk : Rows.uptoSmall H (ds ++ gs) = true) :
    Calls Tryd.prog 14 args W fun e W' => ∃ v, e = .returned v ∧ Rows.frameChainsSpec.post enc Tryd.prog Tryd.f14 false true false false W args v W' := by
  have hW' := hW
  obtain ⟨p, q, hA0, hV, rfl, hfz, hnd⟩ := hW
  have hA : DataW.TrodAll enc Tryd.prog W 0 (fun _ => true) true Tryd.f14.params.toList args.toList ds p := hA0
  rw [Tryd.params14] at hA hval hsz
  obtain ⟨v0, vs0, d0, ds0, p0, q0, hargs, rfl, rfl, h0, r0⟩ := trodAll_cons hA
  obtain ⟨v1, vs1, d1, ds1, p1, q1, rfl, rfl, rfl, h1, r1⟩ := trodAll_cons r0
  obtain ⟨rfl, rfl, rfl⟩ := trodAll_nil r1
  obtain rfl : args = #[v0, v1] := by cases args; simp_all
  obtain ⟨rfl, rfl⟩ := trodVars_none hV
  obtain ⟨b0, s0, g0⟩ := open_blocks (hval 0 38 v0 rfl rfl) h0
  have e0 := small_tot hk (j := 0) rfl g0
  obtain ⟨b1, s1, g1⟩ := open_bytes (hval 1 25 v1 rfl rfl) h1
  have e1 := small_bytes hk (j := 1) rfl g1
  clear hA0
  simp only [List.append_nil] at hW'
  have hl : laidMet Tryd.prog Rows.frameChainsRow.laid W := hL
  obtain ⟨Z, hg⟩ := zip_of_mem hl (by simp [Rows.frameChainsRow])
  have hreads : ∀ g ∈ ([0, 1, 2, 6] : List Nat), ErrRead W g := by
    intro g hg
    simp only [List.mem_cons, List.not_mem_nil, or_false] at hg
    rcases hg with rfl | rfl | rfl | rfl
    · exact read0 hl (by simp [Rows.frameChainsRow])
    · exact read1 hl (by simp [Rows.frameChainsRow])
    · exact read2 hl (by simp [Rows.frameChainsRow])
    · exact read6 hl (by simp [Rows.frameChainsRow])
  obtain ⟨E, hE⟩ := errs_of_reads hreads (by decide +kernel)
  have hg2 := World.block_lt_of_cell? W _ (hE.cell 6 (by decide))
  simp only at hg2
  refine (walk W Z E hE (by omega) _ _ b0 b1 s0 s1 (by omega) (by omega)).mono fun e W' ⟨he, hb⟩ => ?_
  subst he
  exact ⟨_, rfl, law_post hW' rfl rfl rfl (by kernel_rfl) hb⟩

noncomputable def laidWorld (os : Os) : World := World.doorLaid Tryd.prog 475 os
noncomputable def wargs : Array Value := #[.slice none 0 0, .slice none 0 0]
theorem laid_met (os : Os) : laidMetH Tryd.prog Rows.frameChainsRow.laid ((laidWorld os).forCall (fun _ _ => 0) ⟨#[], wargs, []⟩).memory :=
  laidMetH_of_parts3 (fuel := 8) (laidMet_of_run' 8 (by kernel_rfl) (by kernel_rfl)) (by kernel_rfl) (by kernel_rfl)
theorem reads (os : Os) {H : Type} (enc : TypeId × Value → H) : ∃ places, DataW.whole enc Tryd.prog ((laidWorld os).forCall (fun _ _ => 0) ⟨#[], wargs, []⟩).memory Tryd.f14.params.toList Rows.frameChainsSpec.vars false wargs.toList 8 = some ([.nil, .nil], [], places) :=
  ⟨[], by kernel_rfl⟩

set_option maxRecDepth 100000 in
theorem lifted (os : Os) (started : os.Started) (H : Type) (enc : TypeId × Value → H) (F : Stop.Interp) :
    ReturnsInHanded {} Tryd.checked os 14 .any ((Rows.OpenSpec.upto Rows.frameChainsSpec).preRow enc Tryd.prog Tryd.f14 Rows.frameChainsUptoRow.domain false Rows.frameChainsUptoRow.laid) (((Rows.OpenSpec.upto Rows.frameChainsSpec).at F).post enc Tryd.prog Tryd.f14 false true false false) := by
  obtain ⟨places, hx⟩ := reads os enc
  refine returnsInHanded_of_row (C := Tryd.checked) (s := Rows.OpenSpec.upto Rows.frameChainsSpec) own started (by kernel_rfl) Tryd.func14
    (witness_row_atRef (enc := enc) (C := Tryd.checked) false (laidWorld os) wargs rfl (by kernel_rfl) (by kernel_rfl) (by kernel_rfl)
      (OpenSpec.preRow_of_cond 8 hx (by kernel_rfl) (fun k hk => by cases hk; kernel_rfl) (by kernel_rfl) (laid_met os))) ?_
  intro W base args ds gs before hval hW _ hcond hsz hL _ _
  exact contract H enc W base args ds gs before hval hW hL hsz (hcond _ rfl)

theorem fact0 : (Rows.frameChainsUptoRow.wf (OpenSpec.ofChange (Rows.OpenSpec.upto Rows.frameChainsSpec).bare)) = true := by kernel_rfl
theorem fact3 : (Tryd.f14.params.all (Tryd.prog.readableRec ·)) = true := by kernel_rfl
theorem fact4 : (namedTie Tryd.prog Rows.frameChainsUptoRow.named (Rows.OpenSpec.upto Rows.frameChainsSpec).bare.vars) = true := by kernel_rfl
theorem fact5 : ((Rows.frameChainsUptoRow.stops == [])) = true := by kernel_rfl
theorem fact7 : ((Rows.frameChainsUptoRow.knobs == [])) = true := by kernel_rfl
theorem fact9 : ((Rows.frameChainsUptoRow.inPlace == Tryd.prog.inPlace 14)) = true := by kernel_rfl
theorem fact10 : ((Rows.frameChainsUptoRow.unfollowed == Tryd.prog.unfollowed 14)) = true := by kernel_rfl
theorem fact11 : ((Rows.frameChainsUptoRow.recurses == Tryd.prog.recurses 14)) = true := by kernel_rfl
theorem fact12 : ((Rows.frameChainsUptoRow.named == Tryd.prog.varsNamed 14)) = true := by kernel_rfl
theorem fact13 : ((Rows.frameChainsUptoRow.maps == (Tryd.f14.params.toList ++ (Rows.OpenSpec.upto Rows.frameChainsSpec).bare.plain.varTypes Tryd.prog).any (Tryd.prog.mapsRec ·))) = true := by kernel_rfl
theorem fact14 : ((Rows.frameChainsUptoRow.ifaces == (Tryd.f14.params.toList ++ (Rows.OpenSpec.upto Rows.frameChainsSpec).bare.plain.varTypes Tryd.prog).any (Tryd.prog.ifacesRec ·))) = true := by kernel_rfl
theorem fact15 : ((Rows.frameChainsUptoRow.mapsOut == Tryd.prog.mapsAmong Tryd.f14.resultTypes.toList)) = true := by kernel_rfl
theorem fact16 : ((Rows.frameChainsUptoRow.loops == (Tryd.f14.params.toList ++ (Rows.OpenSpec.upto Rows.frameChainsSpec).bare.plain.varTypes Tryd.prog).any (Tryd.prog.loopsFrom ·))) = true := by kernel_rfl
theorem fact17 : ((Rows.frameChainsUptoRow.wideKeys == (Tryd.f14.params.toList ++ (Rows.OpenSpec.upto Rows.frameChainsSpec).bare.plain.varTypes Tryd.prog ++ Tryd.f14.resultTypes.toList).any (Tryd.prog.wideKeysFrom ·))) = true := by kernel_rfl
theorem fact18 : ((Rows.OpenSpec.upto Rows.frameChainsSpec).bare.vars.all (Tryd.prog.varReadable ·)) = true := by kernel_rfl
theorem fact19 : (Tryd.f14.resultTypes.all (fun t => Tryd.prog.readableRec t && decide (t < Tryd.prog.types.size))) = true := by kernel_rfl
theorem fact20 : ((Rows.frameChainsUptoRow.ifacesOut == Tryd.f14.resultTypes.toList.any (Tryd.prog.ifacesRec ·))) = true := by kernel_rfl
theorem fact21 : ((Rows.frameChainsUptoRow.loopsOut == Tryd.f14.resultTypes.toList.any (Tryd.prog.loopsFrom ·))) = true := by kernel_rfl
theorem fact22 : ((Rows.frameChainsUptoRow.plainKeys == Tryd.prog.plainKeys)) = true := by rw [Tryd.keys]; kernel_rfl
theorem fact23 : (Rows.frameChainsUptoRow.shortTexts.isNone) = true := by kernel_rfl
theorem fact26 : ((Rows.frameChainsUptoRow.lifted == Tryd.prog.liftsFinal)) = true := by rw [Tryd.lifts]; kernel_rfl
theorem fact27 : ((Tryd.prog.make == some Rows.frameChainsUptoRow.make)) = true := by rw [Tryd.makes]; kernel_rfl
theorem fact29 : ((Rows.frameChainsUptoRow.pinned == Rows.frameChainsUptoRow.pinnedBy)) = true := by kernel_rfl
theorem fact30 : ((Rows.frameChainsUptoRow.veiled == (Tryd.f14.params.toList ++ (Rows.OpenSpec.upto Rows.frameChainsSpec).bare.plain.varTypes Tryd.prog ++ Tryd.f14.resultTypes.toList).any (Tryd.prog.veiledRec ·))) = true := by kernel_rfl
theorem fact31 : (Rows.frameChainsUptoRow.veiledFits Tryd.prog Tryd.f14.params.toList (Tryd.f14.params.toList ++ (Rows.OpenSpec.upto Rows.frameChainsSpec).bare.plain.varTypes Tryd.prog ++ Tryd.f14.resultTypes.toList)) = true := by kernel_rfl
theorem closed : joinedFacts Tryd.prog 14 Tryd.f14 (Rows.OpenSpec.upto Rows.frameChainsSpec).bare Rows.frameChainsUptoRow = true :=
  facts_of fact0 Tryd.laidOut Tryd.rowed fact3 fact4 fact5 Tryd.noStops fact7 Tryd.noKnobs fact9 fact10 fact11 fact12 fact13 fact14 fact15 fact16 fact17 fact18 fact19 fact20 fact21 fact22 fact23 Tryd.heard Tryd.mayEnter fact26 fact27 (by kernel_rfl) fact29 fact30 fact31
theorem named : Tryd.prog.funcNamed Rows.frameChainsUptoRow.func = some 14 := by kernel_rfl
theorem instanced : Tryd.f14.isInstance Tryd.prog Rows.frameChainsUptoRow.origin Rows.frameChainsUptoRow.targs := of_decide_eq_true (by kernel_rfl)
theorem wrapped : Tryd.f14.isWrapper Tryd.prog Rows.frameChainsUptoRow.wrapper Rows.frameChainsUptoRow.mainSum := by unfold Func.isWrapper; first | (rw [if_pos (by decide +kernel)]; kernel_rfl) | (rw [if_neg (by decide +kernel)]; exact ⟨rfl, rfl⟩)
theorem said : Rows.FrameChainsUptoSaid :=
  OpenClaim.holds_of_cond 14 Tryd.f14 rfl rfl rfl rfl rfl rfl rfl ⟨rfl, rfl, rfl, rfl, rfl⟩ rfl rfl rfl rfl rfl named Tryd.func14 closed
    instanced wrapped
    (fun os started H enc _ F => by rw [OpenClaim.pre_eq_preRow]; exact lifted os started H enc F)

theorem plain (f : FuncId) (fn : Func) (hf : Tryd.pinned.checked.prog.funcNamed "concord/concordlaw02.FrameChains" = some f) (hfn : Tryd.pinned.checked.prog.funcs[f]? = some fn) :
    true = Tryd.pinned.checked.prog.looks [] ∧ ∀ (j : Nat) t, fn.params[j]? = some t → Tryd.pinned.checked.prog.wantsStandIn t = false := by
  obtain rfl : f = 14 := Option.some.inj ((show Tryd.prog.funcNamed "concord/concordlaw02.FrameChains" = some 14 by kernel_rfl).symm.trans hf) |>.symm
  obtain rfl : fn = Tryd.f14 := (Option.some.inj (Tryd.func14.symm.trans hfn)).symm
  have hall : Tryd.f14.params.toList.all (fun t => !Tryd.pinned.checked.prog.wantsStandIn t) = true := by kernel_rfl
  refine ⟨by kernel_rfl, fun j t ht => ?_⟩
  have := List.all_eq_true.1 hall t (by simpa using Array.mem_of_getElem? ht)
  simpa using this

/-- THE CARD -/
theorem card : Rows.FrameChainsUptoCardSaid :=
  Claim7.holds_tied_plain_at .later [] _ _ _ _ said (fun _ h => by cases h) (by kernel_rfl) (fun _ h => by cases h) frameChainsUpto_row_tie rfl ⟨rfl, rfl⟩ (by kernel_rfl) rfl plain (by kernel_rfl)
end Go.Proofs.YtgebekklkodpaaaDoor.frameChains
