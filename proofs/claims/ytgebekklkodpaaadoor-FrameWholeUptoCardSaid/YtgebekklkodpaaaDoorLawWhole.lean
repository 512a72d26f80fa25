/- Proved: for every two kinds and every list of blocks (up to the Upto row's bulk), FrameWhole returns true (an image gives its blocks back, for its kind alone, and what Unpack takes Pack makes again), and nothing that lay in memory ahead of the call has changed. Conditions: the package variables that the row lists (the errors, frame.zipTable, frame.sealTable) hold what their initialisers lay; the card ties that to the text. -/
import Derived.Test.YtgebekklkodpaaaDoorUp
import Derived.Test.YtgebekklkodpaaaDoorSame
import Derived.Test.YtgebekklkodpaaaDoorIm
import Derived.Test.YtgebekklkodpaaaDoorPk
import Derived.Test.YtgebekklkodpaaaDoorUpto
import Derived.Test.YtgebekklkodpaaaDoorTies
import Derived.Deep.DeepWitnessRowRef
import Derived.Test.YtgebekklkodpaaaDoorOpenBl
namespace Go.Proofs.YtgebekklkodpaaaDoor.frameWhole
open Go.ChangeShapes Go.WideShapes Go.ChangeAt Go.RowKit Go.Proofs.YtgebekklkodpaaaDoor

theorem ids_lt {B : Nat} (h : 26 ≤ B) : ∀ g ∈ allErrs, g < B := by
  intro g hg
  have : g ≤ 25 := by revert hg; revert g; decide
  omega
/-- is it refused? -/
def badB (kind : Nat) (bl : List Bl) : Bool := (kind == 0) || bl.any fun x => x.1 == 0
theorem badB_step (kind : Nat) (bl : List Bl) (i : Nat) (x : Bl) (h : bl[i]? = some x) : badB kind (bl.take (i + 1)) = (badB kind (bl.take i) || x.1 == 0) := by
  rw [badB, badB, List.take_add_one, h, List.any_append, ← Bool.or_assoc]
  simp
theorem badB_false {kind : Nat} {bl : List Bl} (h : badB kind bl = false) : kind ≠ 0 ∧ ∀ x ∈ bl, x.1 ≠ 0 := by
  simpa [badB] using h
theorem badB_true {kind : Nat} {bl : List Bl} (h : badB kind bl = true) : kind = 0 ∨ ∃ x ∈ bl, x.1 = 0 := by
  simpa [badB] using h

theorem bad_start (kind : Nat) (bl : List Bl) : ((kind : Int) == 0) = badB kind (bl.take 0) := by
  by_cases h : kind = 0
  · subst h; rfl
  · have h1 : ((kind : Int) == 0) = false := by simp; omega
    have h2 : (kind == 0) = false := by simp; omega
    rw [h1, badB, h2]
    rfl

set_option maxRecDepth 100000 in
set_option maxHeartbeats 4000000 in
theorem walk (w : World) (Z : Zip w) (S : SealT w) (E : Nat → Addr) (hE : Errs w E allErrs) (hg : 26 ≤ w.heap.size) (kind other : Nat) (hk : kind < 256) (ho : other < 256) (v : Value) (bl : List Bl) (hv : Blocks w v bl) (hl : tot bl ≤ 15728640) :
    Calls Tryd.prog 18 #[.int .u8 kind, .int .u8 other, v] w fun e w' => e = .returned (.bool true) ∧ Below w.heap.size w w' := by
  obtain ⟨ao, cap, rfl⟩ := blocks_form' hv
  have hlen := len_tot bl
  have HZ := hide Z
  have HSL := hide S
  have HE := hide hE
  have HV := hide hv
  clear Z S hE hv
  go_enter Tryd.func18, Tryd.ntmps18
  go_wp2_with fail
  refine (lives_any w HZ.out (by omega)).mono ?_
  rintro e w1 ⟨rfl, hb1⟩
  have HB1 := hide hb1
  clear hb1
  have hkb : ((kind : Int) == 0) = badB kind (bl.take 0) := bad_start kind bl
  have HKB := hide hkb
  clear hkb
  go_wp2_with fail
  go_loopw [7, 21] (fun s7 c wr => ∃ i : Nat, i ≤ bl.length ∧ c = .int .i64 i ∧ s7 = .bool (badB kind (bl.take i)) ∧ Below w.heap.size w wr) (fun _ c _ => bl.length - (intOf c).toNat)
  case atStart => exact ⟨0, by omega, rfl, by rw [HKB.out], HB1.out⟩
  case round =>
    obtain ⟨i, hi, rfl, rfl, hb⟩ := hrel
    have HB := hide hb
    have hsr := hb.size
    clear hb
    by_cases hlt : i < bl.length
    · obtain ⟨x, hx⟩ : ∃ x, bl[i]? = some x := ⟨_, List.getElem?_eq_getElem hlt⟩
      obtain ⟨ad, bv, rfl, c0, c1, hs1⟩ := blocks_get (blocks_keep HV.out HB.out) hx
      have hstep := badB_step kind bl i x hx
      have hi1 : (i : Int) < (bl.length : Int) := by omega
      have HST := hide hstep
      obtain ⟨d0, d1⟩ := cells2 (heap_new (w := wr) rfl (.cells #[.int .u8 (x.1 : Nat), bv] 47))
      have HB2 := hide (HB.out.alloc hsr (.cells #[.int .u8 (x.1 : Nat), bv] 47))
      obtain ⟨a1, k1, rfl⟩ := src_form hs1
      clear hstep hx hs1
      generalize x.1 = t at c0 d0 d1 HST HB2
      generalize x.2.length = n at c1 d0 d1 HB2
      cases hbad : badB kind (bl.take i) with
      | true =>
        rw [hbad] at HST
        have HBD := hide hbad
        clear hbad
        go_wp2_with fail
        exact ⟨⟨i + 1, by omega, by simp, by rw [HST.out]; rfl, HB2.out⟩, by simp [intOf]; omega⟩
      | false =>
        rw [hbad] at HST
        have HBD := hide hbad
        clear hbad
        by_cases ht : t = 0
        · subst ht
          go_wp2_with fail
          exact ⟨⟨i + 1, by omega, by simp, by rw [HST.out]; rfl, HB2.out⟩, by simp [intOf]; omega⟩
        · have ht1 : ((t : Int) == 0) = false := by simp; omega
          have ht2 : (t == 0) = false := by simp; omega
          have HT2 := hide ht2
          clear ht2
          go_wp2_with fail
          exact ⟨⟨i + 1, by omega, by simp, by rw [HST.out, HT2.out]; rfl, HB2.out⟩, by simp [intOf]; omega⟩
    · obtain rfl : i = bl.length := by omega
      rw [List.take_of_length_le (Nat.le_refl _)]
      have HVr := hide (blocks_keep HV.out HB.out)
      have HEr := hide (HE.out.below HB.out (Nat.le_refl _) (ids_lt hg))
      cases hbad : badB kind bl with
      | true =>
        have HBD := hide hbad
        clear hbad
        by_cases hk0 : kind = 0
        · subst hk0
          go_wp2_with fail
          refine (pack_zero wr (E 0) (HEr.out.cell 0 (by decide)) _ _ _).mono ?_
          rintro e w2 ⟨rfl, hb2⟩
          have HB2 := hide (HB.out.trans (hb2.mono hsr))
          have HN := hide (num_0 w2 E (HE.out.below HB2.out (Nat.le_refl _) (ids_lt hg)))
          clear hb2
          go_wp2_with fail
          refine HN.out.mono ?_
          rintro e w' ⟨rfl, rfl⟩
          go_wp2
          go_ret
          exact ⟨rfl, HB2.out⟩
        · go_wp2_with fail
          refine (pack_any wr (zip_below HZ.out HB.out (by omega)) (seal_below HSL.out HB.out (by omega)) (E 0) (HEr.out.cell 0 (by decide)) (by omega) kind hk hk0 _ bl HVr.out (by omega)).mono ?_
          rintro e w2 ⟨hb2, ⟨_, rfl⟩ | ⟨hno, _⟩⟩
          · have HB2 := hide (HB.out.trans (hb2.mono hsr))
            have HN := hide (num_0 w2 E (HE.out.below HB2.out (Nat.le_refl _) (ids_lt hg)))
            clear hb2
            go_wp2_with fail
            refine HN.out.mono ?_
            rintro e w' ⟨rfl, rfl⟩
            go_wp2
            go_ret
            exact ⟨rfl, HB2.out⟩
          · rcases badB_true HBD.out with h | ⟨x, hx, h0⟩
            · exact absurd h hk0
            · exact absurd h0 (hno x hx)
      | false =>
        have HBD := hide hbad
        clear hbad
        obtain ⟨hk0, hno⟩ := badB_false HBD.out
        have hok : ∀ x ∈ bl, x.1 < 256 ∧ (∀ y ∈ x.2, y < 256) ∧ x.2.length < 18446744073709551616 := by
          obtain ⟨ao', cap', hvv, hBB⟩ := blocks_form HV.out
          have h := blocks_ok hBB (by omega)
          exact h
        have hok2 : ∀ x ∈ bl, x.1 ≠ 0 ∧ x.1 < 256 ∧ (∀ y ∈ x.2, y < 256) ∧ x.2.length < 18446744073709551616 := fun x hx => ⟨hno x hx, hok x hx⟩
        have hwh := unp_whole kind bl hk0 hk (by omega) hok2
        have hot := fun h : other ≠ kind => unp_other kind other bl h hk (by omega) hok
        have hil := img_len kind bl
        have hilt : ∀ y ∈ img kind bl, y < 256 := img_lt hk (by rw [Uv.u64_eq]; omega) hok
        have HWH := hide hwh
        have HOT := hide hot
        have HILT := hide hilt
        have HNO := hide hno
        clear hok hok2 hwh hot hilt hno
        go_wp2_with fail
        refine (pack_any wr (zip_below HZ.out HB.out (by omega)) (seal_below HSL.out HB.out (by omega)) (E 0) (HEr.out.cell 0 (by decide)) (by omega) kind hk hk0 _ bl HVr.out (by omega)).mono ?_
        rintro e w2 ⟨hb2, ⟨⟨x, hx, h0⟩, _⟩ | ⟨_, g2, rfl, hh2⟩⟩
        · exact absurd h0 (HNO.out x hx)
        · have HB2 := hide (HB.out.trans (hb2.mono hsr))
          have hs2 := HB2.out.size
          have HI2 := hide (src_block hh2 HILT.out (by omega))
          clear hb2 hh2
          generalize hn : (img kind bl).length = n at *
          have HE2 := hide (HE.out.below HB2.out (Nat.le_refl _) (ids_lt hg))
          have HN9 := hide hn
          clear hn
          go_wp2_with fail
          refine (unpack_any w2 (zip_below HZ.out HB2.out (by omega)) (seal_below HSL.out HB2.out (by omega)) E (HE2.out.cell 0 (by decide)) (HE2.out.cell 1 (by decide)) (HE2.out.cell 2 (by decide)) (HE2.out.cell 5 (by decide)) (HE2.out.cell 6 (by decide)) (by omega) kind hk _ (img kind bl) HI2.out (by rw [HN9.out]; omega)).mono ?_
          rintro e w3 ⟨hout, hb3⟩
          rw [UnpOut, HWH.out] at hout
          obtain ⟨v3, its, hbl, rfl, hbo⟩ := hout
          have HB3 := hide (HB2.out.trans (hb3.mono hs2))
          have hs3 := HB3.out.size
          have HX3 := hide (bown_blocks hbo)
          rw [hbl] at HX3
          obtain ⟨a3, c3, rfl⟩ := blocks_form' HX3.out
          have HI3 := hide (src_keep HI2.out hb3)
          have HSB := hide (same_blocks w3 _ _ bl HX3.out (blocks_keep HV.out HB3.out) (by omega))
          clear hbo hbl hb3 HE2
          go_wp2_with fail
          refine HSB.out.mono ?_
          rintro e w' ⟨rfl, q, rfl⟩
          have HB4 := hide (below_drewN HB3.out q)
          have HX4 := hide (blocks_keep HX3.out (below_drewN (Below.refl w3.heap.size w3) q))
          have HI4 := hide (src_drew HI3.out q)
          clear HSB HB3 HX3 HI3
          generalize w3.drewN q = w4 at HB4 HX4 HI4 ⊢
          have hs4 := HB4.out.size
          have HE4 := hide (HE.out.below HB4.out (Nat.le_refl _) (ids_lt hg))
          go_wp2_with fail
          refine (pack_any w4 (zip_below HZ.out HB4.out (by omega)) (seal_below HSL.out HB4.out (by omega)) (E 0) (HE4.out.cell 0 (by decide)) (by omega) kind hk hk0 _ bl HX4.out (by omega)).mono ?_
          rintro e w5 ⟨hb5, ⟨⟨x, hx, h0⟩, _⟩ | ⟨_, g5, rfl, hh5⟩⟩
          · exact absurd h0 (HNO.out x hx)
          · have HB5 := hide (HB4.out.trans (hb5.mono hs4))
            have hs5 := HB5.out.size
            have hsr5 := src_block hh5 HILT.out (by rw [HN9.out]; omega)
            rw [HN9.out] at hsr5 ⊢
            have hA := src_string hsr5
            have hB := src_string (src_keep HI4.out hb5)
            have HI5 := hide (src_keep HI4.out hb5)
            have HE5 := hide (HE.out.below HB5.out (Nat.le_refl _) (ids_lt hg))
            have HU5 := hide (unpack_any w5 (zip_below HZ.out HB5.out (by omega)) (seal_below HSL.out HB5.out (by omega)) E (HE5.out.cell 0 (by decide)) (HE5.out.cell 1 (by decide)) (HE5.out.cell 2 (by decide)) (HE5.out.cell 5 (by decide)) (HE5.out.cell 6 (by decide)) (by omega) other ho _ (img kind bl) HI5.out (by rw [HN9.out]; omega))
            clear hh5 hb5 hsr5 HE5
            generalize bstr (img kind bl) = X at hA hB
            go_wp2_with fail
            clear hA hB
            refine HU5.out.mono ?_
            rintro e w6 ⟨hout, hb6⟩
            have HB6 := hide (HB5.out.trans (hb6.mono hs5))
            clear hb6 HU5
            by_cases hok9 : other = kind
            · subst hok9
              rw [UnpOut, HWH.out] at hout
              obtain ⟨v6, its6, _, rfl, _⟩ := hout
              go_wp2_with fail
              go_ret
              exact ⟨rfl, HB6.out⟩
            · rw [UnpOut, HOT.out hok9] at hout
              subst hout
              have e1 : ((other : Int) == (kind : Int)) = false := by simp; omega
              have e2 : ((other : Int) = (kind : Int)) = False := by simp; omega
              have HN := hide (num_0 w6 E (HE.out.below HB6.out (Nat.le_refl _) (ids_lt hg)))
              go_wp2_with fail
              refine HN.out.mono ?_
              rintro e w' ⟨rfl, rfl⟩
              go_wp2
              go_ret
              exact ⟨rfl, HB6.out⟩

/-! the frame, by program -/
set_option maxRecDepth 100000 in
theorem contract (H : Type) (enc : TypeId × Value → H) (W : World) (base : Nat) (args : Array Value) (ds gs : List (DataW H)) (before : List MemPlace)
    (hval : ∀ (j : Nat) t v, Tryd.f18.params[j]? = some t → args[j]? = some v → Value.okWide Tryd.prog W .any base t v)
    (hW : DataW.Whole enc Tryd.prog Tryd.f18.params.toList Rows.frameWholeSpec.vars false W args.toList ds gs before) (hL : laidMetH Tryd.prog Rows.frameWholeRow.laid W)
    (hsz : (DataW.weightsEach Tryd.prog (Tryd.f18.params.toList ++ []) (ds ++ gs)).all (· ≤ reachBytes) = true) (hk : Rows.uptoSmall H (ds ++ gs) = true) :
    Calls Tryd.prog 18 args W fun e W' => ∃ v, e = .returned v ∧ Rows.frameWholeSpec.post enc Tryd.prog Tryd.f18 false true false false W args v W' := by
  have hW' := hW
  obtain ⟨p, q, hA0, hV, rfl, hfz, hnd⟩ := hW
  have hA : DataW.TrodAll enc Tryd.prog W 0 (fun _ => true) true Tryd.f18.params.toList args.toList ds p := hA0
  rw [Tryd.params18] at hA hval hsz
  obtain ⟨v0, vs0, d0, ds0, p0, q0, hargs, rfl, rfl, h0, r0⟩ := trodAll_cons hA
  obtain ⟨v1, vs1, d1, ds1, p1, q1, rfl, rfl, rfl, h1, r1⟩ := trodAll_cons r0
  obtain ⟨v2, vs2, d2, ds2, p2, q2, rfl, rfl, rfl, h2, r2⟩ := trodAll_cons r1
  obtain ⟨rfl, rfl, rfl⟩ := trodAll_nil r2
  obtain rfl : args = #[v0, v1, v2] := by cases args; simp_all
  obtain ⟨rfl, rfl⟩ := trodVars_none hV
  obtain ⟨x0, rfl, rfl, rfl, w0⟩ := open_int Tryd.underlying5 (hval 0 5 v0 rfl rfl) h0
  obtain ⟨l0, u0⟩ := bounds_u8 w0
  obtain ⟨n0, rfl⟩ := Int.eq_ofNat_of_zero_le l0
  obtain ⟨x1, rfl, rfl, rfl, w1⟩ := open_int Tryd.underlying5 (hval 1 5 v1 rfl rfl) h1
  obtain ⟨l1, u1⟩ := bounds_u8 w1
  obtain ⟨n1, rfl⟩ := Int.eq_ofNat_of_zero_le l1
  obtain ⟨b2, s2, g2⟩ := open_blocks (hval 2 38 v2 rfl rfl) h2
  have e2 := small_tot hk (j := 2) rfl g2
  clear hA0
  simp only [List.append_nil] at hW'
  have hl : laidMet Tryd.prog Rows.frameWholeRow.laid W := hL
  obtain ⟨Z, hg⟩ := zip_of_mem hl (by simp [Rows.frameWholeRow])
  have hS := seal_of_mem hl (by simp [Rows.frameWholeRow])
  have hreads : ∀ g ∈ ([0, 1, 2, 3, 4, 5, 6, 7, 8, 9, 10, 11, 12, 13, 14, 17, 18, 19, 20, 21, 22, 23, 24, 25] : List Nat), ErrRead W g := by
    intro g hg
    simp only [List.mem_cons, List.not_mem_nil, or_false] at hg
    rcases hg with rfl | rfl | rfl | rfl | rfl | rfl | rfl | rfl | rfl | rfl | rfl | rfl | rfl | rfl | rfl | rfl | rfl | rfl | rfl | rfl | rfl | rfl | rfl | rfl
    · exact read0 hl (by simp [Rows.frameWholeRow])
    · exact read1 hl (by simp [Rows.frameWholeRow])
    · exact read2 hl (by simp [Rows.frameWholeRow])
    · exact read3 hl (by simp [Rows.frameWholeRow])
    · exact read4 hl (by simp [Rows.frameWholeRow])
    · exact read5 hl (by simp [Rows.frameWholeRow])
    · exact read6 hl (by simp [Rows.frameWholeRow])
    · exact read7 hl (by simp [Rows.frameWholeRow])
    · exact read8 hl (by simp [Rows.frameWholeRow])
    · exact read9 hl (by simp [Rows.frameWholeRow])
    · exact read10 hl (by simp [Rows.frameWholeRow])
    · exact read11 hl (by simp [Rows.frameWholeRow])
    · exact read12 hl (by simp [Rows.frameWholeRow])
    · exact read13 hl (by simp [Rows.frameWholeRow])
    · exact read14 hl (by simp [Rows.frameWholeRow])
    · exact read17 hl (by simp [Rows.frameWholeRow])
    · exact read18 hl (by simp [Rows.frameWholeRow])
    · exact read19 hl (by simp [Rows.frameWholeRow])
    · exact read20 hl (by simp [Rows.frameWholeRow])
    · exact read21 hl (by simp [Rows.frameWholeRow])
    · exact read22 hl (by simp [Rows.frameWholeRow])
    · exact read23 hl (by simp [Rows.frameWholeRow])
    · exact read24 hl (by simp [Rows.frameWholeRow])
    · exact read25 hl (by simp [Rows.frameWholeRow])
  obtain ⟨E, hE⟩ := errs_of_reads hreads (by decide +kernel)
  have hg2 := World.block_lt_of_cell? W _ (hE.cell 25 (by decide))
  simp only at hg2
  refine (walk W Z hS E hE (by omega) n0 n1 (by omega) (by omega) _ b2 s2 (by omega)).mono fun e W' ⟨he, hb⟩ => ?_
  subst he
  exact ⟨_, rfl, law_post hW' rfl rfl rfl (by kernel_rfl) hb⟩

noncomputable def laidWorld (os : Os) : World := World.doorLaid Tryd.prog 475 os
noncomputable def wargs : Array Value := #[.int .u8 0, .int .u8 0, .slice none 0 0]
theorem laid_met (os : Os) : laidMetH Tryd.prog Rows.frameWholeRow.laid ((laidWorld os).forCall (fun _ _ => 0) ⟨#[], wargs, []⟩).memory :=
  laidMetH_of_parts3 (fuel := 8) (laidMet_of_run' 8 (by kernel_rfl) (by kernel_rfl)) (by kernel_rfl) (by kernel_rfl)
theorem reads (os : Os) {H : Type} (enc : TypeId × Value → H) : ∃ places, DataW.whole enc Tryd.prog ((laidWorld os).forCall (fun _ _ => 0) ⟨#[], wargs, []⟩).memory Tryd.f18.params.toList Rows.frameWholeSpec.vars false wargs.toList 8 = some ([.lit (.int .u8 0), .lit (.int .u8 0), .nil], [], places) :=
  ⟨[], by kernel_rfl⟩

set_option maxRecDepth 100000 in
theorem lifted (os : Os) (started : os.Started) (H : Type) (enc : TypeId × Value → H) (F : Stop.Interp) :
    ReturnsInHanded {} Tryd.checked os 18 .any ((Rows.OpenSpec.upto Rows.frameWholeSpec).preRow enc Tryd.prog Tryd.f18 Rows.frameWholeUptoRow.domain false Rows.frameWholeUptoRow.laid) (((Rows.OpenSpec.upto Rows.frameWholeSpec).at F).post enc Tryd.prog Tryd.f18 false true false false) := by
  obtain ⟨places, hx⟩ := reads os enc
  refine returnsInHanded_of_row (C := Tryd.checked) (s := Rows.OpenSpec.upto Rows.frameWholeSpec) own started (by kernel_rfl) Tryd.func18
    (witness_row_atRef (enc := enc) (C := Tryd.checked) false (laidWorld os) wargs rfl (by kernel_rfl) (by kernel_rfl) (by kernel_rfl)
      (OpenSpec.preRow_of_cond 8 hx (by kernel_rfl) (fun k hk => by cases hk; kernel_rfl) (by kernel_rfl) (laid_met os))) ?_
  intro W base args ds gs before hval hW _ hcond hsz hL _ _
  exact contract H enc W base args ds gs before hval hW hL hsz (hcond _ rfl)

theorem fact0 : (Rows.frameWholeUptoRow.wf (OpenSpec.ofChange (Rows.OpenSpec.upto Rows.frameWholeSpec).bare)) = true := by kernel_rfl
theorem fact3 : (Tryd.f18.params.all (Tryd.prog.readableRec ·)) = true := by kernel_rfl
theorem fact4 : (namedTie Tryd.prog Rows.frameWholeUptoRow.named (Rows.OpenSpec.upto Rows.frameWholeSpec).bare.vars) = true := by kernel_rfl
theorem fact5 : ((Rows.frameWholeUptoRow.stops == [])) = true := by kernel_rfl
theorem fact7 : ((Rows.frameWholeUptoRow.knobs == [])) = true := by kernel_rfl
theorem fact9 : ((Rows.frameWholeUptoRow.inPlace == Tryd.prog.inPlace 18)) = true := by kernel_rfl
theorem fact10 : ((Rows.frameWholeUptoRow.unfollowed == Tryd.prog.unfollowed 18)) = true := by kernel_rfl
theorem fact11 : ((Rows.frameWholeUptoRow.recurses == Tryd.prog.recurses 18)) = true := by kernel_rfl
theorem fact12 : ((Rows.frameWholeUptoRow.named == Tryd.prog.varsNamed 18)) = true := by kernel_rfl
theorem fact13 : ((Rows.frameWholeUptoRow.maps == (Tryd.f18.params.toList ++ (Rows.OpenSpec.upto Rows.frameWholeSpec).bare.plain.varTypes Tryd.prog).any (Tryd.prog.mapsRec ·))) = true := by kernel_rfl
theorem fact14 : ((Rows.frameWholeUptoRow.ifaces == (Tryd.f18.params.toList ++ (Rows.OpenSpec.upto Rows.frameWholeSpec).bare.plain.varTypes Tryd.prog).any (Tryd.prog.ifacesRec ·))) = true := by kernel_rfl
theorem fact15 : ((Rows.frameWholeUptoRow.mapsOut == Tryd.prog.mapsAmong Tryd.f18.resultTypes.toList)) = true := by kernel_rfl
theorem fact16 : ((Rows.frameWholeUptoRow.loops == (Tryd.f18.params.toList ++ (Rows.OpenSpec.upto Rows.frameWholeSpec).bare.plain.varTypes Tryd.prog).any (Tryd.prog.loopsFrom ·))) = true := by kernel_rfl
theorem fact17 : ((Rows.frameWholeUptoRow.wideKeys == (Tryd.f18.params.toList ++ (Rows.OpenSpec.upto Rows.frameWholeSpec).bare.plain.varTypes Tryd.prog ++ Tryd.f18.resultTypes.toList).any (Tryd.prog.wideKeysFrom ·))) = true := by kernel_rfl
theorem fact18 : ((Rows.OpenSpec.upto Rows.frameWholeSpec).bare.vars.all (Tryd.prog.varReadable ·)) = true := by kernel_rfl
theorem fact19 : (Tryd.f18.resultTypes.all (fun t => Tryd.prog.readableRec t && decide (t < Tryd.prog.types.size))) = true := by kernel_rfl
theorem fact20 : ((Rows.frameWholeUptoRow.ifacesOut == Tryd.f18.resultTypes.toList.any (Tryd.prog.ifacesRec ·))) = true := by kernel_rfl
theorem fact21 : ((Rows.frameWholeUptoRow.loopsOut == Tryd.f18.resultTypes.toList.any (Tryd.prog.loopsFrom ·))) = true := by kernel_rfl
theorem fact22 : ((Rows.frameWholeUptoRow.plainKeys == Tryd.prog.plainKeys)) = true := by rw [Tryd.keys]; kernel_rfl
theorem fact23 : (Rows.frameWholeUptoRow.shortTexts.isNone) = true := by kernel_rfl
theorem fact26 : ((Rows.frameWholeUptoRow.lifted == Tryd.prog.liftsFinal)) = true := by rw [Tryd.lifts]; kernel_rfl
theorem fact27 : ((Tryd.prog.make == some Rows.frameWholeUptoRow.make)) = true := by rw [Tryd.makes]; kernel_rfl
theorem fact29 : ((Rows.frameWholeUptoRow.pinned == Rows.frameWholeUptoRow.pinnedBy)) = true := by kernel_rfl
theorem fact30 : ((Rows.frameWholeUptoRow.veiled == (Tryd.f18.params.toList ++ (Rows.OpenSpec.upto Rows.frameWholeSpec).bare.plain.varTypes Tryd.prog ++ Tryd.f18.resultTypes.toList).any (Tryd.prog.veiledRec ·))) = true := by kernel_rfl
theorem fact31 : (Rows.frameWholeUptoRow.veiledFits Tryd.prog Tryd.f18.params.toList (Tryd.f18.params.toList ++ (Rows.OpenSpec.upto Rows.frameWholeSpec).bare.plain.varTypes Tryd.prog ++ Tryd.f18.resultTypes.toList)) = true := by kernel_rfl
theorem closed : joinedFacts Tryd.prog 18 Tryd.f18 (Rows.OpenSpec.upto Rows.frameWholeSpec).bare Rows.frameWholeUptoRow = true :=
  facts_of fact0 Tryd.laidOut Tryd.rowed fact3 fact4 fact5 Tryd.noStops fact7 Tryd.noKnobs fact9 fact10 fact11 fact12 fact13 fact14 fact15 fact16 fact17 fact18 fact19 fact20 fact21 fact22 fact23 Tryd.heard Tryd.mayEnter fact26 fact27 (by kernel_rfl) fact29 fact30 fact31
theorem named : Tryd.prog.funcNamed Rows.frameWholeUptoRow.func = some 18 := by kernel_rfl
theorem instanced : Tryd.f18.isInstance Tryd.prog Rows.frameWholeUptoRow.origin Rows.frameWholeUptoRow.targs := of_decide_eq_true (by kernel_rfl)
theorem wrapped : Tryd.f18.isWrapper Tryd.prog Rows.frameWholeUptoRow.wrapper Rows.frameWholeUptoRow.mainSum := by unfold Func.isWrapper; first | (rw [if_pos (by decide +kernel)]; kernel_rfl) | (rw [if_neg (by decide +kernel)]; exact ⟨rfl, rfl⟩)
theorem said : Rows.FrameWholeUptoSaid :=
  OpenClaim.holds_of_cond 18 Tryd.f18 rfl rfl rfl rfl rfl rfl rfl ⟨rfl, rfl, rfl, rfl, rfl⟩ rfl rfl rfl rfl rfl named Tryd.func18 closed
    instanced wrapped
    (fun os started H enc _ F => by rw [OpenClaim.pre_eq_preRow]; exact lifted os started H enc F)

theorem plain (f : FuncId) (fn : Func) (hf : Tryd.pinned.checked.prog.funcNamed "concord/concordlaw02.FrameWhole" = some f) (hfn : Tryd.pinned.checked.prog.funcs[f]? = some fn) :
    true = Tryd.pinned.checked.prog.looks [] ∧ ∀ (j : Nat) t, fn.params[j]? = some t → Tryd.pinned.checked.prog.wantsStandIn t = false := by
  obtain rfl : f = 18 := Option.some.inj ((show Tryd.prog.funcNamed "concord/concordlaw02.FrameWhole" = some 18 by kernel_rfl).symm.trans hf) |>.symm
  obtain rfl : fn = Tryd.f18 := (Option.some.inj (Tryd.func18.symm.trans hfn)).symm
  have hall : Tryd.f18.params.toList.all (fun t => !Tryd.pinned.checked.prog.wantsStandIn t) = true := by kernel_rfl
  refine ⟨by kernel_rfl, fun j t ht => ?_⟩
  have := List.all_eq_true.1 hall t (by simpa using Array.mem_of_getElem? ht)
  simpa using this

/-- THE CARD -/
theorem card : Rows.FrameWholeUptoCardSaid :=
  Claim7.holds_tied_plain_at .later [] _ _ _ _ said (fun _ h => by cases h) (by kernel_rfl) (fun _ h => by cases h) frameWholeUpto_row_tie rfl ⟨rfl, rfl⟩ (by kernel_rfl) rfl plain (by kernel_rfl)
end Go.Proofs.YtgebekklkodpaaaDoor.frameWhole
