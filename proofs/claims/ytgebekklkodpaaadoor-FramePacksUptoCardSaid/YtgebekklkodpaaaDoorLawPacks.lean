/- Proved: for every kind and every list of blocks (up to the Upto row's bulk), FramePacks returns true (frame.Pack answers what the reference's Pack answers, byte for byte and error for error), and nothing that lay in memory ahead of the call has changed. Conditions: the package variables that the row lists hold what their initialisers lay; the card ties that to the text. -/
import Derived.Test.YtgebekklkodpaaaDoorRefPk
import Derived.Test.YtgebekklkodpaaaDoorNum
import Derived.Test.YtgebekklkodpaaaDoorUpto
import Derived.Test.YtgebekklkodpaaaDoorTies
import Derived.Deep.DeepWitnessRowRef
import Derived.Test.YtgebekklkodpaaaDoorOpenBl
namespace Go.Proofs.YtgebekklkodpaaaDoor.framePacks
open Go.ChangeShapes Go.WideShapes Go.ChangeAt Go.RowKit Go.Proofs.YtgebekklkodpaaaDoor

theorem ids_lt {B : Nat} (h : 26 ≤ B) : ∀ g ∈ allErrs, g < B := by
  intro g hg
  have : g ≤ 25 := by revert hg; revert g; decide
  omega

set_option maxRecDepth 100000 in
set_option maxHeartbeats 1000000 in
theorem walk_zero (w : World) (Z : Zip w) (E : Nat → Addr) (hE : Errs w E allErrs) (hg : 26 ≤ w.heap.size) (v : Value) (bl : List Bl) (hv : Blocks w v bl) :
    Calls Tryd.prog 6 #[.int .u8 0, v] w fun e w' => e = .returned (.bool true) ∧ Below w.heap.size w w' := by
  obtain ⟨ao, cap, rfl, _⟩ := blocks_form hv
  have HZ := hide Z
  have HE := hide hE
  clear Z hE hv
  go_enter Tryd.func6, Tryd.ntmps6
  go_wp2_with fail
  refine (lives_any w HZ.out (by omega)).mono ?_
  rintro e w1 ⟨rfl, hb1⟩
  have HB1 := hide hb1
  have HE1 := hide (HE.out.below hb1 (Nat.le_refl _) (ids_lt hg))
  clear hb1
  go_wp2_with fail
  refine (pack_zero w1 (E 0) (HE1.out.cell 0 (by decide)) _ _ _).mono ?_
  rintro e w2 ⟨rfl, hb2⟩
  have HB2 := hide (HB1.out.trans (hb2.mono HB1.out.size))
  have HE2 := hide (HE.out.below HB2.out (Nat.le_refl _) (ids_lt hg))
  clear hb2
  go_wp2_with fail
  refine (ref_pack_zero w2 _ _ _).mono ?_
  rintro e w' ⟨rfl, rfl⟩
  have hs := run_convert_bytes_nil (P := Tryd.prog) w2 25 5 Tryd.underlying25 Tryd.underlying5 0 0 9 under9
  go_wp2_with fail
  refine (num_0 w2 E HE2.out).mono ?_
  rintro e w' ⟨rfl, rfl⟩
  go_wp2
  go_ret
  exact ⟨rfl, HB2.out⟩

set_option maxRecDepth 100000 in
set_option maxHeartbeats 2000000 in
theorem walk_pos (w : World) (Z : Zip w) (S : SealT w) (E : Nat → Addr) (hE : Errs w E allErrs) (hg : 26 ≤ w.heap.size) (kind : Nat) (hk : kind < 256) (h0 : kind ≠ 0) (v : Value) (bl : List Bl) (hv : Blocks w v bl) (ht : tot bl ≤ 140737488355000) :
    Calls Tryd.prog 6 #[.int .u8 kind, v] w fun e w' => e = .returned (.bool true) ∧ Below w.heap.size w w' := by
  obtain ⟨ao, cap, hve, hbs⟩ := blocks_form hv
  have hbl := blocks_ok hbs ht
  have HU := hide (show bl.length < Uv.u64 by have := len_tot bl; rw [Uv.u64_eq]; omega)
  have HIL := hide (img_lt hk HU.out hbl)
  have HIN := hide (img_len kind bl)
  have HZ := hide Z
  have HS := hide S
  have HE := hide hE
  have HV := hide hv
  have HK := hide hk
  have HK0 := hide h0
  have HT := hide ht
  subst hve
  clear Z S hE hv hk h0 ht hbs hbl
  go_enter Tryd.func6, Tryd.ntmps6
  go_wp2_with fail
  refine (lives_any w HZ.out (by omega)).mono ?_
  rintro e w1 ⟨rfl, hb1⟩
  have HB1 := hide hb1
  have HE1 := hide (HE.out.below hb1 (Nat.le_refl _) (ids_lt hg))
  have hs1 := hb1.size
  clear hb1
  go_wp2_with fail
  refine (pack_any w1 (zip_below HZ.out HB1.out (by omega)) (seal_below HS.out HB1.out (by omega)) (E 0) (HE1.out.cell 0 (by decide)) (by omega) kind HK.out HK0.out _ bl (blocks_keep HV.out HB1.out) HT.out).mono ?_
  rintro e w2 ⟨hb2, ⟨hz, rfl⟩ | ⟨hnz, g2, rfl, hh2⟩⟩
  · have HB2 := hide (HB1.out.trans (hb2.mono HB1.out.size))
    have HE2 := hide (HE.out.below HB2.out (Nat.le_refl _) (ids_lt hg))
    have HZZ := hide hz
    clear hb2 hz
    go_wp2_with fail
    refine (ref_pack_any w2 kind HK.out HK0.out _ bl (blocks_keep HV.out HB2.out) HT.out).mono ?_
    rintro e w3 ⟨hb3, ⟨_, rfl⟩ | ⟨hnz, _⟩⟩
    · have HB3 := hide (HB2.out.trans (hb3.mono HB2.out.size))
      have HE3 := hide (HE.out.below HB3.out (Nat.le_refl _) (ids_lt hg))
      clear hb3
      have hs := run_convert_bytes_nil (P := Tryd.prog) w3 25 5 Tryd.underlying25 Tryd.underlying5 0 0 9 under9
      go_wp2_with fail
      refine (num_0 w3 E HE3.out).mono ?_
      rintro e w' ⟨rfl, rfl⟩
      go_wp2
      go_ret
      exact ⟨rfl, HB3.out⟩
    · obtain ⟨x, hx, h⟩ := HZZ.out
      exact absurd h (hnz x hx)
  · have HB2 := hide (HB1.out.trans (hb2.mono HB1.out.size))
    have HNZ := hide hnz
    have HH2 := hide hh2
    have hlt2 := heap_lt hh2
    clear hb2 hnz hh2
    go_wp2_with fail
    refine (ref_pack_any w2 kind HK.out HK0.out _ bl (blocks_keep HV.out HB2.out) HT.out).mono ?_
    rintro e w3 ⟨hb3, ⟨hz, _⟩ | ⟨_, v3, rfl, ho3⟩⟩
    · obtain ⟨x, hx, h⟩ := hz
      exact absurd h (HNZ.out x hx)
    · have HB3 := hide (HB2.out.trans (hb3.mono HB2.out.size))
      have hh3 := (hb3.block g2 hlt2).trans HH2.out
      have hsrc3 := own_src ho3 HIL.out
      have hA := src_string (src_block hh3 HIL.out (by have := HIN.out; have := HT.out; omega))
      have hB := src_string hsrc3
      obtain ⟨a3, c3, rfl⟩ := src_form hsrc3
      clear hb3 hh3 ho3 hsrc3
      generalize img kind bl = im at hA hB
      go_wp2_with fail
      refine (num_nil w3).mono ?_
      rintro e w' ⟨rfl, rfl⟩
      go_wp2
      go_ret
      exact ⟨rfl, HB3.out⟩

theorem walk (w : World) (Z : Zip w) (S : SealT w) (E : Nat → Addr) (hE : Errs w E allErrs) (hg : 26 ≤ w.heap.size) (kind : Nat) (hk : kind < 256) (v : Value) (bl : List Bl) (hv : Blocks w v bl) (ht : tot bl ≤ 140737488355000) :
    Calls Tryd.prog 6 #[.int .u8 kind, v] w fun e w' => e = .returned (.bool true) ∧ Below w.heap.size w w' := by
  by_cases h0 : kind = 0
  · subst h0
    exact walk_zero w Z E hE hg v bl hv
  · exact walk_pos w Z S E hE hg kind hk h0 v bl hv ht

/-! the frame, by program -/
set_option maxRecDepth 100000 in
theorem contract (H : Type) (enc : TypeId × Value → H) (W : World) (base : Nat) (args : Array Value) (ds gs : List (DataW H)) (before : List MemPlace)
    (hval : ∀ (j : Nat) t v, Tryd.f6.params[j]? = some t → args[j]? = some v → Value.okWide Tryd.prog W .any base t v)
    (hW : DataW.Whole enc Tryd.prog Tryd.f6.params.toList Rows.framePacksSpec.vars false W args.toList ds gs before) (hL : laidMetH Tryd.prog Rows.framePacksRow.laid W)
    (hsz : (DataW.weightsEach Tryd.prog (Tryd.f6.params.toList ++ []) (ds ++ gs)).all (· ≤ reachBytes) = true) (hk : Rows.uptoSmall H (ds ++ gs) = true) :
    Calls Tryd.prog 6 args W fun e W' => ∃ v, e = .returned v ∧ Rows.framePacksSpec.post enc Tryd.prog Tryd.f6 false true false false W args v W' := by
  have hW' := hW
  obtain ⟨p, q, hA0, hV, rfl, hfz, hnd⟩ := hW
  have hA : DataW.TrodAll enc Tryd.prog W 0 (fun _ => true) true Tryd.f6.params.toList args.toList ds p := hA0
  rw [Tryd.params6] at hA hval hsz
  obtain ⟨v0, vs0, d0, ds0, p0, q0, hargs, rfl, rfl, h0, r0⟩ := trodAll_cons hA
  obtain ⟨v1, vs1, d1, ds1, p1, q1, rfl, rfl, rfl, h1, r1⟩ := trodAll_cons r0
  obtain ⟨rfl, rfl, rfl⟩ := trodAll_nil r1
  obtain rfl : args = #[v0, v1] := by cases args; simp_all
  obtain ⟨rfl, rfl⟩ := trodVars_none hV
  obtain ⟨x0, rfl, rfl, rfl, w0⟩ := open_int Tryd.underlying5 (hval 0 5 v0 rfl rfl) h0
  obtain ⟨l0, u0⟩ := bounds_u8 w0
  obtain ⟨n0, rfl⟩ := Int.eq_ofNat_of_zero_le l0
  obtain ⟨b1, s1, g1⟩ := open_blocks (hval 1 38 v1 rfl rfl) h1
  have e1 := small_tot hk (j := 1) rfl g1
  clear hA0
  simp only [List.append_nil] at hW'
  have hl : laidMet Tryd.prog Rows.framePacksRow.laid W := hL
  obtain ⟨Z, hg⟩ := zip_of_mem hl (by simp [Rows.framePacksRow])
  have hS := seal_of_mem hl (by simp [Rows.framePacksRow])
  have hreads : ∀ g ∈ ([0, 1, 2, 3, 4, 5, 6, 7, 8, 9, 10, 11, 12, 13, 14, 17, 18, 19, 20, 21, 22, 23, 24, 25] : List Nat), ErrRead W g := by
    intro g hg
    simp only [List.mem_cons, List.not_mem_nil, or_false] at hg
    rcases hg with rfl | rfl | rfl | rfl | rfl | rfl | rfl | rfl | rfl | rfl | rfl | rfl | rfl | rfl | rfl | rfl | rfl | rfl | rfl | rfl | rfl | rfl | rfl | rfl
    · exact read0 hl (by simp [Rows.framePacksRow])
    · exact read1 hl (by simp [Rows.framePacksRow])
    · exact read2 hl (by simp [Rows.framePacksRow])
    · exact read3 hl (by simp [Rows.framePacksRow])
    · exact read4 hl (by simp [Rows.framePacksRow])
    · exact read5 hl (by simp [Rows.framePacksRow])
    · exact read6 hl (by simp [Rows.framePacksRow])
    · exact read7 hl (by simp [Rows.framePacksRow])
    · exact read8 hl (by simp [Rows.framePacksRow])
    · exact read9 hl (by simp [Rows.framePacksRow])
    · exact read10 hl (by simp [Rows.framePacksRow])
    · exact read11 hl (by simp [Rows.framePacksRow])
    · exact read12 hl (by simp [Rows.framePacksRow])
    · exact read13 hl (by simp [Rows.framePacksRow])
    · exact read14 hl (by simp [Rows.framePacksRow])
    · exact read17 hl (by simp [Rows.framePacksRow])
    · exact read18 hl (by simp [Rows.framePacksRow])
    · exact read19 hl (by simp [Rows.framePacksRow])
    · exact read20 hl (by simp [Rows.framePacksRow])
    · exact read21 hl (by simp [Rows.framePacksRow])
    · exact read22 hl (by simp [Rows.framePacksRow])
    · exact read23 hl (by simp [Rows.framePacksRow])
    · exact read24 hl (by simp [Rows.framePacksRow])
    · exact read25 hl (by simp [Rows.framePacksRow])
  obtain ⟨E, hE⟩ := errs_of_reads hreads (by decide +kernel)
  have hg2 := World.block_lt_of_cell? W _ (hE.cell 25 (by decide))
  simp only at hg2
  refine (walk W Z hS E hE (by omega) n0 (by omega) _ b1 s1 (by omega)).mono fun e W' ⟨he, hb⟩ => ?_
  subst he
  exact ⟨_, rfl, law_post hW' rfl rfl rfl (by kernel_rfl) hb⟩

noncomputable def laidWorld (os : Os) : World := World.doorLaid Tryd.prog 475 os
noncomputable def wargs : Array Value := #[.int .u8 0, .slice none 0 0]
theorem laid_met (os : Os) : laidMetH Tryd.prog Rows.framePacksRow.laid ((laidWorld os).forCall (fun _ _ => 0) ⟨#[], wargs, []⟩).memory :=
  laidMetH_of_parts3 (fuel := 8) (laidMet_of_run' 8 (by kernel_rfl) (by kernel_rfl)) (by kernel_rfl) (by kernel_rfl)
theorem reads (os : Os) {H : Type} (enc : TypeId × Value → H) : ∃ places, DataW.whole enc Tryd.prog ((laidWorld os).forCall (fun _ _ => 0) ⟨#[], wargs, []⟩).memory Tryd.f6.params.toList Rows.framePacksSpec.vars false wargs.toList 8 = some ([.lit (.int .u8 0), .nil], [], places) :=
  ⟨[], by kernel_rfl⟩

set_option maxRecDepth 100000 in
theorem lifted (os : Os) (started : os.Started) (H : Type) (enc : TypeId × Value → H) (F : Stop.Interp) :
    ReturnsInHanded {} Tryd.checked os 6 .any ((Rows.OpenSpec.upto Rows.framePacksSpec).preRow enc Tryd.prog Tryd.f6 Rows.framePacksUptoRow.domain false Rows.framePacksUptoRow.laid) (((Rows.OpenSpec.upto Rows.framePacksSpec).at F).post enc Tryd.prog Tryd.f6 false true false false) := by
  obtain ⟨places, hx⟩ := reads os enc
  refine returnsInHanded_of_row (C := Tryd.checked) (s := Rows.OpenSpec.upto Rows.framePacksSpec) own started (by kernel_rfl) Tryd.func6
    (witness_row_atRef (enc := enc) (C := Tryd.checked) false (laidWorld os) wargs rfl (by kernel_rfl) (by kernel_rfl) (by kernel_rfl)
      (OpenSpec.preRow_of_cond 8 hx (by kernel_rfl) (fun k hk => by cases hk; kernel_rfl) (by kernel_rfl) (laid_met os))) ?_
  intro W base args ds gs before hval hW _ hcond hsz hL _ _
  exact contract H enc W base args ds gs before hval hW hL hsz (hcond _ rfl)

theorem fact0 : (Rows.framePacksUptoRow.wf (OpenSpec.ofChange (Rows.OpenSpec.upto Rows.framePacksSpec).bare)) = true := by kernel_rfl
theorem fact3 : (Tryd.f6.params.all (Tryd.prog.readableRec ·)) = true := by kernel_rfl
theorem fact4 : (namedTie Tryd.prog Rows.framePacksUptoRow.named (Rows.OpenSpec.upto Rows.framePacksSpec).bare.vars) = true := by kernel_rfl
theorem fact5 : ((Rows.framePacksUptoRow.stops == [])) = true := by kernel_rfl
theorem fact7 : ((Rows.framePacksUptoRow.knobs == [])) = true := by kernel_rfl
theorem fact9 : ((Rows.framePacksUptoRow.inPlace == Tryd.prog.inPlace 6)) = true := by kernel_rfl
theorem fact10 : ((Rows.framePacksUptoRow.unfollowed == Tryd.prog.unfollowed 6)) = true := by kernel_rfl
theorem fact11 : ((Rows.framePacksUptoRow.recurses == Tryd.prog.recurses 6)) = true := by kernel_rfl
theorem fact12 : ((Rows.framePacksUptoRow.named == Tryd.prog.varsNamed 6)) = true := by kernel_rfl
theorem fact13 : ((Rows.framePacksUptoRow.maps == (Tryd.f6.params.toList ++ (Rows.OpenSpec.upto Rows.framePacksSpec).bare.plain.varTypes Tryd.prog).any (Tryd.prog.mapsRec ·))) = true := by kernel_rfl
theorem fact14 : ((Rows.framePacksUptoRow.ifaces == (Tryd.f6.params.toList ++ (Rows.OpenSpec.upto Rows.framePacksSpec).bare.plain.varTypes Tryd.prog).any (Tryd.prog.ifacesRec ·))) = true := by kernel_rfl
theorem fact15 : ((Rows.framePacksUptoRow.mapsOut == Tryd.prog.mapsAmong Tryd.f6.resultTypes.toList)) = true := by kernel_rfl
theorem fact16 : ((Rows.framePacksUptoRow.loops == (Tryd.f6.params.toList ++ (Rows.OpenSpec.upto Rows.framePacksSpec).bare.plain.varTypes Tryd.prog).any (Tryd.prog.loopsFrom ·))) = true := by kernel_rfl
theorem fact17 : ((Rows.framePacksUptoRow.wideKeys == (Tryd.f6.params.toList ++ (Rows.OpenSpec.upto Rows.framePacksSpec).bare.plain.varTypes Tryd.prog ++ Tryd.f6.resultTypes.toList).any (Tryd.prog.wideKeysFrom ·))) = true := by kernel_rfl
theorem fact18 : ((Rows.OpenSpec.upto Rows.framePacksSpec).bare.vars.all (Tryd.prog.varReadable ·)) = true := by kernel_rfl
theorem fact19 : (Tryd.f6.resultTypes.all (fun t => Tryd.prog.readableRec t && decide (t < Tryd.prog.types.size))) = true := by kernel_rfl
theorem fact20 : ((Rows.framePacksUptoRow.ifacesOut == Tryd.f6.resultTypes.toList.any (Tryd.prog.ifacesRec ·))) = true := by kernel_rfl
theorem fact21 : ((Rows.framePacksUptoRow.loopsOut == Tryd.f6.resultTypes.toList.any (Tryd.prog.loopsFrom ·))) = true := by kernel_rfl
theorem fact22 : ((Rows.framePacksUptoRow.plainKeys == Tryd.prog.plainKeys)) = true := by rw [Tryd.keys]; kernel_rfl
theorem fact23 : (Rows.framePacksUptoRow.shortTexts.isNone) = true := by kernel_rfl
theorem fact26 : ((Rows.framePacksUptoRow.lifted == Tryd.prog.liftsFinal)) = true := by rw [Tryd.lifts]; kernel_rfl
theorem fact27 : ((Tryd.prog.make == some Rows.framePacksUptoRow.make)) = true := by rw [Tryd.makes]; kernel_rfl
theorem fact29 : ((Rows.framePacksUptoRow.pinned == Rows.framePacksUptoRow.pinnedBy)) = true := by kernel_rfl
theorem fact30 : ((Rows.framePacksUptoRow.veiled == (Tryd.f6.params.toList ++ (Rows.OpenSpec.upto Rows.framePacksSpec).bare.plain.varTypes Tryd.prog ++ Tryd.f6.resultTypes.toList).any (Tryd.prog.veiledRec ·))) = true := by kernel_rfl
theorem fact31 : (Rows.framePacksUptoRow.veiledFits Tryd.prog Tryd.f6.params.toList (Tryd.f6.params.toList ++ (Rows.OpenSpec.upto Rows.framePacksSpec).bare.plain.varTypes Tryd.prog ++ Tryd.f6.resultTypes.toList)) = true := by kernel_rfl
theorem closed : joinedFacts Tryd.prog 6 Tryd.f6 (Rows.OpenSpec.upto Rows.framePacksSpec).bare Rows.framePacksUptoRow = true :=
  facts_of fact0 Tryd.laidOut Tryd.rowed fact3 fact4 fact5 Tryd.noStops fact7 Tryd.noKnobs fact9 fact10 fact11 fact12 fact13 fact14 fact15 fact16 fact17 fact18 fact19 fact20 fact21 fact22 fact23 Tryd.heard Tryd.mayEnter fact26 fact27 (by kernel_rfl) fact29 fact30 fact31
theorem named : Tryd.prog.funcNamed Rows.framePacksUptoRow.func = some 6 := by kernel_rfl
theorem instanced : Tryd.f6.isInstance Tryd.prog Rows.framePacksUptoRow.origin Rows.framePacksUptoRow.targs := of_decide_eq_true (by kernel_rfl)
theorem wrapped : Tryd.f6.isWrapper Tryd.prog Rows.framePacksUptoRow.wrapper Rows.framePacksUptoRow.mainSum := by unfold Func.isWrapper; first | (rw [if_pos (by decide +kernel)]; kernel_rfl) | (rw [if_neg (by decide +kernel)]; exact ⟨rfl, rfl⟩)
theorem said : Rows.FramePacksUptoSaid :=
  OpenClaim.holds_of_cond 6 Tryd.f6 rfl rfl rfl rfl rfl rfl rfl ⟨rfl, rfl, rfl, rfl, rfl⟩ rfl rfl rfl rfl rfl named Tryd.func6 closed
    instanced wrapped
    (fun os started H enc _ F => by rw [OpenClaim.pre_eq_preRow]; exact lifted os started H enc F)

theorem plain (f : FuncId) (fn : Func) (hf : Tryd.pinned.checked.prog.funcNamed "concord/concordlaw02.FramePacks" = some f) (hfn : Tryd.pinned.checked.prog.funcs[f]? = some fn) :
    true = Tryd.pinned.checked.prog.looks [] ∧ ∀ (j : Nat) t, fn.params[j]? = some t → Tryd.pinned.checked.prog.wantsStandIn t = false := by
  obtain rfl : f = 6 := Option.some.inj ((show Tryd.prog.funcNamed "concord/concordlaw02.FramePacks" = some 6 by kernel_rfl).symm.trans hf) |>.symm
  obtain rfl : fn = Tryd.f6 := (Option.some.inj (Tryd.func6.symm.trans hfn)).symm
  have hall : Tryd.f6.params.toList.all (fun t => !Tryd.pinned.checked.prog.wantsStandIn t) = true := by kernel_rfl
  refine ⟨by kernel_rfl, fun j t ht => ?_⟩
  have := List.all_eq_true.1 hall t (by simpa using Array.mem_of_getElem? ht)
  simpa using this

/-- THE CARD -/
theorem card : Rows.FramePacksUptoCardSaid :=
  Claim7.holds_tied_plain_at .later [] _ _ _ _ said (fun _ h => by cases h) (by kernel_rfl) (fun _ h => by cases h) framePacksUpto_row_tie rfl ⟨rfl, rfl⟩ (by kernel_rfl) rfl plain (by kernel_rfl)
end Go.Proofs.YtgebekklkodpaaaDoor.framePacks
