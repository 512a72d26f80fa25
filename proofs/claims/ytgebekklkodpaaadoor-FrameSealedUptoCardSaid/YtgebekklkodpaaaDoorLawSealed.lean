/- Proved: for every kind and every list of bytes (up to the Upto row's bulk), FrameSealed returns true (frame.Unpack of those bytes with their seal behind them answers what the reference's Unpack answers, and what is taken is made again), and nothing that lay in memory ahead of the call has changed. Conditions: the package variables that the row lists (the errors, frame.zipTable, frame.sealTable) hold what their initialisers lay; the card ties that to the text. -/
import Derived.Test.YtgebekklkodpaaaDoorRefUp
import Derived.Test.YtgebekklkodpaaaDoorSame
import Derived.Test.YtgebekklkodpaaaDoorIm
import Derived.Test.YtgebekklkodpaaaDoorPk
import Derived.Test.YtgebekklkodpaaaDoorUpto
import Derived.Test.YtgebekklkodpaaaDoorTies
import Derived.Deep.DeepWitnessRowRef
namespace Go.Proofs.YtgebekklkodpaaaDoor.frameSealed
open Go.ChangeShapes Go.WideShapes Go.ChangeAt Go.RowKit Go.Proofs.YtgebekklkodpaaaDoor

theorem ids_lt {B : Nat} (h : 26 ≤ B) : ∀ g ∈ allErrs, g < B := by
  intro g hg
  have : g ≤ 25 := by revert hg; revert g; decide
  omega

theorem word_cells (s : Nat) (h : s < 4294967296) : (#[.int .u8 ((s : Int) % 256), .int .u8 ((s : Int) / 256 % 256), .int .u8 ((s : Int) / 65536 % 256), .int .u8 ((s : Int) / 16777216)] : Array Value) = (u8s (Uv.word s)).toArray := by
  have h : s / 16777216 % 256 = s / 16777216 := by omega
  simp only [Uv.word, h]
  simp [u8s]
set_option maxRecDepth 100000 in
set_option maxHeartbeats 1000000 in
theorem walk (w : World) (Z : Zip w) (S : SealT w) (E : Nat → Addr) (hE : Errs w E allErrs) (hg : 26 ≤ w.heap.size) (kind : Nat) (hk : kind < 256) (v : Value) (more : List Nat) (hv : Src w v more) (hl : more.length ≤ 10000000) :
    Calls Tryd.prog 17 #[.int .u8 kind, v] w fun e w' => e = .returned (.bool true) ∧ Below w.heap.size w w' := by
  obtain ⟨ao, cap, rfl⟩ := src_form hv
  have HZ := hide Z
  have HSL := hide S
  have HE := hide hE
  have HV := hide hv
  clear Z S hE hv
  go_enter Tryd.func17, Tryd.ntmps17
  go_wp2_with fail
  refine (lives_any w HZ.out (by omega)).mono ?_
  rintro e w1 ⟨rfl, hb1⟩
  have HB1 := hide hb1
  have hs1 := hb1.size
  clear hb1
  go_wp2_with fail
  refine (ref_seal w1 _ more (src_keep HV.out HB1.out) (by omega)).mono ?_
  rintro e w2 ⟨rfl, rfl⟩
  have hsl := seal_lt' HV.out.1
  obtain ⟨s, hs⟩ : ∃ s, seal_ more = s := ⟨_, rfl⟩
  rw [hs] at hsl ⊢
  have HSS := hide hs
  have HO := hide (own_lit w1 w1.heap.size [] (Nat.le_refl _) (by simp) #[] rfl)
  have HBA := hide ((Below.refl w1.heap.size w1).alloc (Nat.le_refl _) (.cells #[] 5))
  clear hs
  go_wp2_with (refine append_src w1 (w1.alloc (.cells #[] 5)) w1.heap.size _ _ [] more rfl (.tmp 16) (.tmp 17) rfl rfl rfl HO.out (src_keep HV.out (HB1.out.trans (HBA.out.mono hs1))) (by simp; omega) HBA.out.size HBA.out ?_)
  intro v3 w3 ho3 hb3
  have HO3 := hide ho3
  have HB3 := hide hb3
  clear ho3 hb3 HO HBA
  have hba := (Below.refl w3.heap.size w3).alloc (Nat.le_refl _) (.cells #[.int .u8 ((s : Int) % 256), .int .u8 ((s : Int) / 256 % 256), .int .u8 ((s : Int) / 65536 % 256), .int .u8 ((s : Int) / 16777216)] 5)
  have hsA : Src (w3.alloc (.cells #[.int .u8 ((s : Int) % 256), .int .u8 ((s : Int) / 256 % 256), .int .u8 ((s : Int) / 65536 % 256), .int .u8 ((s : Int) / 16777216)] 5)) (.slice (some ⟨w3.heap.size, 0, none⟩) 4 4) (Uv.word s) := by
    rw [word_cells s hsl]
    exact src_block (heap_new rfl _) (word_lt s) (by have : (Uv.word s).length = 4 := rfl; omega)
  have HSA := hide hsA
  have HOA := hide (own_keep HO3.out hba)
  have HBA := hide (HB3.out.trans (hba.mono HB3.out.size))
  clear hba hsA HO3
  go_wp2_with (refine append_src w1 _ w1.heap.size v3 _ ([] ++ more) (Uv.word s) rfl (.tmp 18) (.tmp 30) rfl rfl rfl HOA.out HSA.out (by have : (Uv.word s).length = 4 := rfl; simp; omega) HBA.out.size HBA.out ?_)
  intro v5 w5 ho5 hb5
  have h256 : ∀ x ∈ more ++ Uv.word s, x < 256 := by
    intro x hx
    rcases List.mem_append.1 hx with h | h
    · exact HV.out.1 x h
    · exact word_lt s x h
  have HI5 := hide (own_src ho5 h256)
  have HW5 := hide (HB1.out.trans (hb5.mono hs1))
  have hs5 := HW5.out.size
  have him : (more ++ Uv.word s).length ≤ 100000000 := by have : (Uv.word s).length = 4 := rfl; simp; omega
  clear ho5 hb5 HOA HSA HBA HB3
  generalize more ++ Uv.word s = im at HI5 him h256
  obtain ⟨a5, c5, rfl⟩ := src_form HI5.out
  have HE5 := hide (HE.out.below HW5.out (Nat.le_refl _) (ids_lt hg))
  go_wp2_with fail
  refine (unpack_any w5 (zip_below HZ.out HW5.out (by omega)) (seal_below HSL.out HW5.out (by omega)) E (HE5.out.cell 0 (by decide)) (HE5.out.cell 1 (by decide)) (HE5.out.cell 2 (by decide)) (HE5.out.cell 5 (by decide)) (HE5.out.cell 6 (by decide)) (by omega) kind hk _ im HI5.out him).mono ?_
  rintro e w6 ⟨hout, hb6⟩
  have HW6 := hide (HW5.out.trans (hb6.mono hs5))
  have hs6 := HW6.out.size
  have HI6 := hide (src_keep HI5.out hb6)
  clear hb6 HE5 HI5
  cases hu : unp kind im with
  | inl g =>
    rw [UnpOut, hu] at hout
    subst hout
    have HU := hide hu
    clear hu
    go_wp2_with fail
    refine (ref_unpack_any w6 kind hk _ im HI6.out him).mono ?_
    rintro e w7 ⟨hout, hb7⟩
    rw [RefUnpOut, HU.out] at hout
    subst hout
    have HW7 := hide (HW6.out.trans (hb7.mono hs6))
    have HN := hide (num_unp w7 E (HE.out.below HW7.out (Nat.le_refl _) (ids_lt hg)) HU.out)
    have HSB := hide (same_blocks w7 _ _ [] (.inl ⟨rfl, rfl⟩) (.inl ⟨rfl, rfl⟩) (by simp))
    clear hb7
    go_wp2_with fail
    refine HN.out.mono ?_
    rintro e w' ⟨rfl, rfl⟩
    go_wp2_with fail
    refine HSB.out.mono ?_
    rintro e w' ⟨rfl, q, rfl⟩
    go_wp2
    go_ret
    exact ⟨rfl, below_drewN HW7.out _⟩
  | inr bl =>
    rw [UnpOut, hu] at hout
    obtain ⟨v6, its, hbl, rfl, hbo⟩ := hout
    have HU := hide hu
    have hn2 := unp_len hu him
    obtain ⟨himg, hk0, htot, hbs⟩ := unp_img h256 hu
    have HX6 := hide (bown_blocks hbo)
    rw [hbl] at HX6
    obtain ⟨a6, c6, rfl⟩ := blocks_form' HX6.out
    have HIM := hide himg
    have HBS := hide hbs
    clear hu hbo hbl himg hbs
    go_wp2_with fail
    refine (ref_unpack_any w6 kind hk _ im HI6.out him).mono ?_
    rintro e w7 ⟨hout, hb7⟩
    rw [RefUnpOut, HU.out] at hout
    obtain ⟨v7, its7, hbl7, rfl, hbo7⟩ := hout
    have HX7 := hide (bown_blocks hbo7)
    rw [hbl7] at HX7
    obtain ⟨a7, c7, rfl⟩ := blocks_form' HX7.out
    have HW7 := hide (HW6.out.trans (hb7.mono hs6))
    have HA7 := hide (blocks_keep HX6.out hb7)
    have HSB := hide (same_blocks w7 _ _ bl HA7.out HX7.out (by omega))
    have HI7 := hide (src_keep HI6.out hb7)
    have hs7 := HW7.out.size
    clear hb7 hbo7 hbl7
    go_wp2_with fail
    refine (num_nil w7).mono ?_
    rintro e w' ⟨rfl, rfl⟩
    go_wp2_with fail
    refine HSB.out.mono ?_
    rintro e w' ⟨rfl, q, rfl⟩
    have HW8 := hide (below_drewN HW7.out q)
    have HA8 := hide (blocks_keep HA7.out (below_drewN (Below.refl w7.heap.size w7) q))
    have HI8 := hide (src_drew HI7.out q)
    clear HSB HW7 HA7 HI7
    generalize w7.drewN q = w8 at HW8 HA8 HI8 ⊢
    have hs8 := HW8.out.size
    have HE8 := hide (HE.out.below HW8.out (Nat.le_refl _) (ids_lt hg))
    go_wp2_with fail
    refine (pack_any w8 (zip_below HZ.out HW8.out (by omega)) (seal_below HSL.out HW8.out (by omega)) (E 0) (HE8.out.cell 0 (by decide)) (by omega) kind hk hk0 _ bl HA8.out (by omega)).mono ?_
    rintro e w9 ⟨hb9, ⟨⟨x, hx, hx0⟩, _⟩ | ⟨_, g9, rfl, hh9⟩⟩
    · exact absurd hx0 (HBS.out x hx).1
    · rw [HIM.out] at hh9 ⊢
      have hA := src_string (src_block hh9 h256 (by omega))
      have hB := src_string (src_keep HI8.out hb9)
      have HW9 := hide (HW8.out.trans (hb9.mono hs8))
      clear hh9 hb9
      go_wp2_with fail
      go_ret
      exact ⟨rfl, HW9.out⟩

/-! the frame, by program -/
set_option maxRecDepth 100000 in
theorem contract (H : Type) (enc : TypeId × Value → H) (W : World) (base : Nat) (args : Array Value) (ds gs : List (DataW H)) (before : List MemPlace)
    (hval : ∀ (j : Nat) t v, Tryd.f17.params[j]? = some t → args[j]? = some v → Value.okWide Tryd.prog W .any base t v)
    (hW : DataW.Whole enc Tryd.prog Tryd.f17.params.toList Rows.frameSealedSpec.vars false W args.toList ds gs before) (hL : laidMetH Tryd.prog Rows.frameSealedRow.laid W)
    (hsz : (DataW.weightsEach Tryd.prog (Tryd.f17.params.toList ++ []) (ds ++ gs)).all (· ≤ reachBytes) = true) (hk : Rows.uptoSmall H (ds ++ gs) = true) :
    Calls Tryd.prog 17 args W fun e W' => ∃ v, e = .returned v ∧ Rows.frameSealedSpec.post enc Tryd.prog Tryd.f17 false true false false W args v W' := by
  have hW' := hW
  obtain ⟨p, q, hA0, hV, rfl, hfz, hnd⟩ := hW
  have hA : DataW.TrodAll enc Tryd.prog W 0 (fun _ => true) true Tryd.f17.params.toList args.toList ds p := hA0
  rw [Tryd.params17] at hA hval hsz
  obtain ⟨v0, vs0, d0, ds0, p0, q0, hargs, rfl, rfl, h0, r0⟩ := trodAll_cons hA
  obtain ⟨v1, vs1, d1, ds1, p1, q1, rfl, rfl, rfl, h1, r1⟩ := trodAll_cons r0
  obtain ⟨rfl, rfl, rfl⟩ := trodAll_nil r1
  obtain rfl : args = #[v0, v1] := by cases args; simp_all
  obtain ⟨rfl, rfl⟩ := trodVars_none hV
  obtain ⟨x0, rfl, rfl, rfl, w0⟩ := open_int Tryd.underlying5 (hval 0 5 v0 rfl rfl) h0
  obtain ⟨l0, u0⟩ := bounds_u8 w0
  obtain ⟨n0, rfl⟩ := Int.eq_ofNat_of_zero_le l0
  obtain ⟨b1, s1, g1⟩ := open_bytes (hval 1 25 v1 rfl rfl) h1
  have e1 := small_bytes hk (j := 1) rfl g1
  clear hA0
  simp only [List.append_nil] at hW'
  have hl : laidMet Tryd.prog Rows.frameSealedRow.laid W := hL
  obtain ⟨Z, hg⟩ := zip_of_mem hl (by simp [Rows.frameSealedRow])
  have hS := seal_of_mem hl (by simp [Rows.frameSealedRow])
  have hreads : ∀ g ∈ ([0, 1, 2, 3, 4, 5, 6, 7, 8, 9, 10, 11, 12, 13, 14, 17, 18, 19, 20, 21, 22, 23, 24, 25] : List Nat), ErrRead W g := by
    intro g hg
    simp only [List.mem_cons, List.not_mem_nil, or_false] at hg
    rcases hg with rfl | rfl | rfl | rfl | rfl | rfl | rfl | rfl | rfl | rfl | rfl | rfl | rfl | rfl | rfl | rfl | rfl | rfl | rfl | rfl | rfl | rfl | rfl | rfl
    · exact read0 hl (by simp [Rows.frameSealedRow])
    · exact read1 hl (by simp [Rows.frameSealedRow])
    · exact read2 hl (by simp [Rows.frameSealedRow])
    · exact read3 hl (by simp [Rows.frameSealedRow])
    · exact read4 hl (by simp [Rows.frameSealedRow])
    · exact read5 hl (by simp [Rows.frameSealedRow])
    · exact read6 hl (by simp [Rows.frameSealedRow])
    · exact read7 hl (by simp [Rows.frameSealedRow])
    · exact read8 hl (by simp [Rows.frameSealedRow])
    · exact read9 hl (by simp [Rows.frameSealedRow])
    · exact read10 hl (by simp [Rows.frameSealedRow])
    · exact read11 hl (by simp [Rows.frameSealedRow])
    · exact read12 hl (by simp [Rows.frameSealedRow])
    · exact read13 hl (by simp [Rows.frameSealedRow])
    · exact read14 hl (by simp [Rows.frameSealedRow])
    · exact read17 hl (by simp [Rows.frameSealedRow])
    · exact read18 hl (by simp [Rows.frameSealedRow])
    · exact read19 hl (by simp [Rows.frameSealedRow])
    · exact read20 hl (by simp [Rows.frameSealedRow])
    · exact read21 hl (by simp [Rows.frameSealedRow])
    · exact read22 hl (by simp [Rows.frameSealedRow])
    · exact read23 hl (by simp [Rows.frameSealedRow])
    · exact read24 hl (by simp [Rows.frameSealedRow])
    · exact read25 hl (by simp [Rows.frameSealedRow])
  obtain ⟨E, hE⟩ := errs_of_reads hreads (by decide +kernel)
  have hg2 := World.block_lt_of_cell? W _ (hE.cell 25 (by decide))
  simp only at hg2
  refine (walk W Z hS E hE (by omega) n0 (by omega) _ b1 s1 (by omega)).mono fun e W' ⟨he, hb⟩ => ?_
  subst he
  exact ⟨_, rfl, law_post hW' rfl rfl rfl (by kernel_rfl) hb⟩

noncomputable def laidWorld (os : Os) : World := World.doorLaid Tryd.prog 475 os
noncomputable def wargs : Array Value := #[.int .u8 0, .slice none 0 0]
theorem laid_met (os : Os) : laidMetH Tryd.prog Rows.frameSealedRow.laid ((laidWorld os).forCall (fun _ _ => 0) ⟨#[], wargs, []⟩).memory :=
  laidMetH_of_parts3 (fuel := 8) (laidMet_of_run' 8 (by kernel_rfl) (by kernel_rfl)) (by kernel_rfl) (by kernel_rfl)
theorem reads (os : Os) {H : Type} (enc : TypeId × Value → H) : ∃ places, DataW.whole enc Tryd.prog ((laidWorld os).forCall (fun _ _ => 0) ⟨#[], wargs, []⟩).memory Tryd.f17.params.toList Rows.frameSealedSpec.vars false wargs.toList 8 = some ([.lit (.int .u8 0), .nil], [], places) :=
  ⟨[], by kernel_rfl⟩

set_option maxRecDepth 100000 in
theorem lifted (os : Os) (started : os.Started) (H : Type) (enc : TypeId × Value → H) (F : Stop.Interp) :
    ReturnsInHanded {} Tryd.checked os 17 .any ((Rows.OpenSpec.upto Rows.frameSealedSpec).preRow enc Tryd.prog Tryd.f17 Rows.frameSealedUptoRow.domain false Rows.frameSealedUptoRow.laid) (((Rows.OpenSpec.upto Rows.frameSealedSpec).at F).post enc Tryd.prog Tryd.f17 false true false false) := by
  obtain ⟨places, hx⟩ := reads os enc
  refine returnsInHanded_of_row (C := Tryd.checked) (s := Rows.OpenSpec.upto Rows.frameSealedSpec) own started (by kernel_rfl) Tryd.func17
    (witness_row_atRef (enc := enc) (C := Tryd.checked) false (laidWorld os) wargs rfl (by kernel_rfl) (by kernel_rfl) (by kernel_rfl)
      (OpenSpec.preRow_of_cond 8 hx (by kernel_rfl) (fun k hk => by cases hk; kernel_rfl) (by kernel_rfl) (laid_met os))) ?_
  intro W base args ds gs before hval hW _ hcond hsz hL _ _
  exact contract H enc W base args ds gs before hval hW hL hsz (hcond _ rfl)

theorem fact0 : (Rows.frameSealedUptoRow.wf (OpenSpec.ofChange (Rows.OpenSpec.upto Rows.frameSealedSpec).bare)) = true := by kernel_rfl
theorem fact3 : (Tryd.f17.params.all (Tryd.prog.readableRec ·)) = true := by kernel_rfl
theorem fact4 : (namedTie Tryd.prog Rows.frameSealedUptoRow.named (Rows.OpenSpec.upto Rows.frameSealedSpec).bare.vars) = true := by kernel_rfl
theorem fact5 : ((Rows.frameSealedUptoRow.stops == [])) = true := by kernel_rfl
theorem fact7 : ((Rows.frameSealedUptoRow.knobs == [])) = true := by kernel_rfl
theorem fact9 : ((Rows.frameSealedUptoRow.inPlace == Tryd.prog.inPlace 17)) = true := by kernel_rfl
theorem fact10 : ((Rows.frameSealedUptoRow.unfollowed == Tryd.prog.unfollowed 17)) = true := by kernel_rfl
theorem fact11 : ((Rows.frameSealedUptoRow.recurses == Tryd.prog.recurses 17)) = true := by kernel_rfl
theorem fact12 : ((Rows.frameSealedUptoRow.named == Tryd.prog.varsNamed 17)) = true := by kernel_rfl
theorem fact13 : ((Rows.frameSealedUptoRow.maps == (Tryd.f17.params.toList ++ (Rows.OpenSpec.upto Rows.frameSealedSpec).bare.plain.varTypes Tryd.prog).any (Tryd.prog.mapsRec ·))) = true := by kernel_rfl
theorem fact14 : ((Rows.frameSealedUptoRow.ifaces == (Tryd.f17.params.toList ++ (Rows.OpenSpec.upto Rows.frameSealedSpec).bare.plain.varTypes Tryd.prog).any (Tryd.prog.ifacesRec ·))) = true := by kernel_rfl
theorem fact15 : ((Rows.frameSealedUptoRow.mapsOut == Tryd.prog.mapsAmong Tryd.f17.resultTypes.toList)) = true := by kernel_rfl
theorem fact16 : ((Rows.frameSealedUptoRow.loops == (Tryd.f17.params.toList ++ (Rows.OpenSpec.upto Rows.frameSealedSpec).bare.plain.varTypes Tryd.prog).any (Tryd.prog.loopsFrom ·))) = true := by kernel_rfl
theorem fact17 : ((Rows.frameSealedUptoRow.wideKeys == (Tryd.f17.params.toList ++ (Rows.OpenSpec.upto Rows.frameSealedSpec).bare.plain.varTypes Tryd.prog ++ Tryd.f17.resultTypes.toList).any (Tryd.prog.wideKeysFrom ·))) = true := by kernel_rfl
theorem fact18 : ((Rows.OpenSpec.upto Rows.frameSealedSpec).bare.vars.all (Tryd.prog.varReadable ·)) = true := by kernel_rfl
theorem fact19 : (Tryd.f17.resultTypes.all (fun t => Tryd.prog.readableRec t && decide (t < Tryd.prog.types.size))) = true := by kernel_rfl
theorem fact20 : ((Rows.frameSealedUptoRow.ifacesOut == Tryd.f17.resultTypes.toList.any (Tryd.prog.ifacesRec ·))) = true := by kernel_rfl
theorem fact21 : ((Rows.frameSealedUptoRow.loopsOut == Tryd.f17.resultTypes.toList.any (Tryd.prog.loopsFrom ·))) = true := by kernel_rfl
theorem fact22 : ((Rows.frameSealedUptoRow.plainKeys == Tryd.prog.plainKeys)) = true := by rw [Tryd.keys]; kernel_rfl
theorem fact23 : (Rows.frameSealedUptoRow.shortTexts.isNone) = true := by kernel_rfl
theorem fact26 : ((Rows.frameSealedUptoRow.lifted == Tryd.prog.liftsFinal)) = true := by rw [Tryd.lifts]; kernel_rfl
theorem fact27 : ((Tryd.prog.make == some Rows.frameSealedUptoRow.make)) = true := by rw [Tryd.makes]; kernel_rfl
theorem fact29 : ((Rows.frameSealedUptoRow.pinned == Rows.frameSealedUptoRow.pinnedBy)) = true := by kernel_rfl
theorem fact30 : ((Rows.frameSealedUptoRow.veiled == (Tryd.f17.params.toList ++ (Rows.OpenSpec.upto Rows.frameSealedSpec).bare.plain.varTypes Tryd.prog ++ Tryd.f17.resultTypes.toList).any (Tryd.prog.veiledRec ·))) = true := by kernel_rfl
theorem fact31 : (Rows.frameSealedUptoRow.veiledFits Tryd.prog Tryd.f17.params.toList (Tryd.f17.params.toList ++ (Rows.OpenSpec.upto Rows.frameSealedSpec).bare.plain.varTypes Tryd.prog ++ Tryd.f17.resultTypes.toList)) = true := by kernel_rfl
theorem closed : joinedFacts Tryd.prog 17 Tryd.f17 (Rows.OpenSpec.upto Rows.frameSealedSpec).bare Rows.frameSealedUptoRow = true :=
  facts_of fact0 Tryd.laidOut Tryd.rowed fact3 fact4 fact5 Tryd.noStops fact7 Tryd.noKnobs fact9 fact10 fact11 fact12 fact13 fact14 fact15 fact16 fact17 fact18 fact19 fact20 fact21 fact22 fact23 Tryd.heard Tryd.mayEnter fact26 fact27 (by kernel_rfl) fact29 fact30 fact31
theorem named : Tryd.prog.funcNamed Rows.frameSealedUptoRow.func = some 17 := by kernel_rfl
theorem instanced : Tryd.f17.isInstance Tryd.prog Rows.frameSealedUptoRow.origin Rows.frameSealedUptoRow.targs := of_decide_eq_true (by kernel_rfl)
theorem wrapped : Tryd.f17.isWrapper Tryd.prog Rows.frameSealedUptoRow.wrapper Rows.frameSealedUptoRow.mainSum := by unfold Func.isWrapper; first | (rw [if_pos (by decide +kernel)]; kernel_rfl) | (rw [if_neg (by decide +kernel)]; exact ⟨rfl, rfl⟩)
theorem said : Rows.FrameSealedUptoSaid :=
  OpenClaim.holds_of_cond 17 Tryd.f17 rfl rfl rfl rfl rfl rfl rfl ⟨rfl, rfl, rfl, rfl, rfl⟩ rfl rfl rfl rfl rfl named Tryd.func17 closed
    instanced wrapped
    (fun os started H enc _ F => by rw [OpenClaim.pre_eq_preRow]; exact lifted os started H enc F)

theorem plain (f : FuncId) (fn : Func) (hf : Tryd.pinned.checked.prog.funcNamed "concord/concordlaw02.FrameSealed" = some f) (hfn : Tryd.pinned.checked.prog.funcs[f]? = some fn) :
    true = Tryd.pinned.checked.prog.looks [] ∧ ∀ (j : Nat) t, fn.params[j]? = some t → Tryd.pinned.checked.prog.wantsStandIn t = false := by
  obtain rfl : f = 17 := Option.some.inj ((show Tryd.prog.funcNamed "concord/concordlaw02.FrameSealed" = some 17 by kernel_rfl).symm.trans hf) |>.symm
  obtain rfl : fn = Tryd.f17 := (Option.some.inj (Tryd.func17.symm.trans hfn)).symm
  have hall : Tryd.f17.params.toList.all (fun t => !Tryd.pinned.checked.prog.wantsStandIn t) = true := by kernel_rfl
  refine ⟨by kernel_rfl, fun j t ht => ?_⟩
  have := List.all_eq_true.1 hall t (by simpa using Array.mem_of_getElem? ht)
  simpa using this

/-- THE CARD -/
theorem card : Rows.FrameSealedUptoCardSaid :=
  Claim7.holds_tied_plain_at .later [] _ _ _ _ said (fun _ h => by cases h) (by kernel_rfl) (fun _ h => by cases h) frameSealedUpto_row_tie rfl ⟨rfl, rfl⟩ (by kernel_rfl) rfl plain (by kernel_rfl)
end Go.Proofs.YtgebekklkodpaaaDoor.frameSealed
