/- Proved: for every kind and every list of bytes (up to the Upto row's bulk), FrameUnpacks returns true (frame.Unpack answers what the reference's Unpack answers: blocks and error), and nothing that lay in memory ahead of the call has changed. Conditions: the package variables that the row lists (the errors, frame.zipTable, frame.sealTable) hold what their initialisers lay; the card ties that to the text. -/
import Derived.Test.YtgebekklkodpaaaDoorRefUp
import Derived.Test.YtgebekklkodpaaaDoorSame
import Derived.Test.YtgebekklkodpaaaDoorUpto
import Derived.Test.YtgebekklkodpaaaDoorTies
import Derived.Deep.DeepWitnessRowRef
namespace Go.Proofs.YtgebekklkodpaaaDoor.frameUnpacks
open Go.ChangeShapes Go.WideShapes Go.ChangeAt Go.RowKit Go.Proofs.YtgebekklkodpaaaDoor

theorem ids_lt {B : Nat} (h : 26 ≤ B) : ∀ g ∈ allErrs, g < B := by
  intro g hg
  have : g ≤ 25 := by revert hg; revert g; decide
  omega

set_option maxRecDepth 100000 in
set_option maxHeartbeats 1000000 in
theorem walk (w : World) (Z : Zip w) (S : SealT w) (E : Nat → Addr) (hE : Errs w E allErrs) (hg : 26 ≤ w.heap.size) (kind : Nat) (hk : kind < 256) (v : Value) (im : List Nat) (hv : Src w v im) (hl : im.length ≤ 100000000) :
    Calls Tryd.prog 16 #[.int .u8 kind, v] w fun e w' => e = .returned (.bool true) ∧ Below w.heap.size w w' := by
  obtain ⟨ao, cap, rfl⟩ := src_form hv
  have HZ := hide Z
  have HSL := hide S
  have HE := hide hE
  have HV := hide hv
  clear Z S hE hv
  go_enter Tryd.func16, Tryd.ntmps16
  go_wp2_with fail
  refine (lives_any w HZ.out (by omega)).mono ?_
  rintro e w1 ⟨rfl, hb1⟩
  have HB1 := hide hb1
  have hs1 := hb1.size
  have HE1 := hide (HE.out.below hb1 (Nat.le_refl _) (ids_lt hg))
  clear hb1
  go_wp2_with fail
  refine (unpack_any w1 (zip_below HZ.out HB1.out (by omega)) (seal_below HSL.out HB1.out (by omega)) E (HE1.out.cell 0 (by decide)) (HE1.out.cell 1 (by decide)) (HE1.out.cell 2 (by decide)) (HE1.out.cell 5 (by decide)) (HE1.out.cell 6 (by decide)) (by omega) kind hk _ im (src_keep HV.out HB1.out) hl).mono ?_
  rintro e w2 ⟨hout, hb2⟩
  have HB2 := hide (HB1.out.trans (hb2.mono hs1))
  have hs2 := HB2.out.size
  clear hb2
  cases hu : unp kind im with
  | inl g =>
    rw [UnpOut, hu] at hout
    subst hout
    have HU := hide hu
    clear hu
    go_wp2_with fail
    refine (ref_unpack_any w2 kind hk _ im (src_keep HV.out HB2.out) hl).mono ?_
    rintro e w3 ⟨hout, hb3⟩
    rw [RefUnpOut, HU.out] at hout
    subst hout
    have HB3 := hide (HB2.out.trans (hb3.mono hs2))
    have HN := hide (num_unp w3 E (HE.out.below HB3.out (Nat.le_refl _) (ids_lt hg)) HU.out)
    have HSB := hide (same_blocks w3 _ _ [] (.inl ⟨rfl, rfl⟩) (.inl ⟨rfl, rfl⟩) (by simp))
    clear hb3
    go_wp2_with fail
    refine HN.out.mono ?_
    rintro e w' ⟨rfl, rfl⟩
    go_wp2_with fail
    refine HSB.out.mono ?_
    rintro e w' ⟨rfl, q, rfl⟩
    go_wp2
    go_ret
    exact ⟨rfl, below_drewN HB3.out _⟩
  | inr bl =>
    rw [UnpOut, hu] at hout
    obtain ⟨v2, its, hbl, rfl, hbo⟩ := hout
    have HU := hide hu
    have hn2 := unp_len hu hl
    have HX2 := hide (bown_blocks hbo)
    rw [hbl] at HX2
    obtain ⟨a2, c2, rfl⟩ := blocks_form' HX2.out
    clear hu hbo hbl
    go_wp2_with fail
    refine (ref_unpack_any w2 kind hk _ im (src_keep HV.out HB2.out) hl).mono ?_
    rintro e w3 ⟨hout, hb3⟩
    rw [RefUnpOut, HU.out] at hout
    obtain ⟨v3, its3, hbl3, rfl, hbo3⟩ := hout
    have HX3 := hide (bown_blocks hbo3)
    rw [hbl3] at HX3
    obtain ⟨a3, c3, rfl⟩ := blocks_form' HX3.out
    have HB3 := hide (HB2.out.trans (hb3.mono hs2))
    have HSB := hide (same_blocks w3 _ _ bl (blocks_keep HX2.out hb3) HX3.out (by omega))
    clear hb3 hbo3 hbl3
    go_wp2_with fail
    refine (num_nil w3).mono ?_
    rintro e w' ⟨rfl, rfl⟩
    go_wp2_with fail
    refine HSB.out.mono ?_
    rintro e w' ⟨rfl, q, rfl⟩
    go_wp2
    go_ret
    exact ⟨rfl, below_drewN HB3.out _⟩

/-! the frame, by program -/
set_option maxRecDepth 100000 in
theorem contract (H : Type) (enc : TypeId × Value → H) (W : World) (base : Nat) (args : Array Value) (ds gs : List (DataW H)) (before : List MemPlace)
    (hval : ∀ (j : Nat) t v, Tryd.f16.params[j]? = some t → args[j]? = some v → Value.okWide Tryd.prog W .any base t v)
    (hW : DataW.Whole enc Tryd.prog Tryd.f16.params.toList Rows.frameUnpacksSpec.vars false W args.toList ds gs before) (hL : laidMetH Tryd.prog Rows.frameUnpacksRow.laid W)
    (hsz : (DataW.weightsEach Tryd.prog (Tryd.f16.params.toList ++ []) (ds ++ gs)).all (· ≤ reachBytes) = true) (hk : Rows.uptoSmall H (ds ++ gs) = true) :
    Calls Tryd.prog 16 args W fun e W' => ∃ v, e = .returned v ∧ Rows.frameUnpacksSpec.post enc Tryd.prog Tryd.f16 false true false false W args v W' := by
  have hW' := hW
  obtain ⟨p, q, hA0, hV, rfl, hfz, hnd⟩ := hW
  have hA : DataW.TrodAll enc Tryd.prog W 0 (fun _ => true) true Tryd.f16.params.toList args.toList ds p := hA0
  rw [Tryd.params16] at hA hval hsz
  obtain ⟨v0, vs0, d0, ds0, p0, q0, hargs, rfl, rfl, h0, r0⟩ := trodAll_cons hA
  obtain ⟨v1, vs1, d1, ds1, p1, q1, rfl, rfl, rfl, h1, r1⟩ := trodAll_cons r0
  obtain ⟨rfl, rfl, rfl⟩ := trodAll_nil r1
  obtain rfl : args = #[v0, v1] := by cases args; simp_all
  obtain ⟨rfl, rfl⟩ := trodVars_none hV
  obtain ⟨x0, rfl, rfl, rfl, w0⟩ := open_int Tryd.underlying5 (hval 0 5 v0 rfl rfl) h0
  obtain ⟨l0, u0⟩ := bounds_u8 w0
  obtain ⟨n0, rfl⟩ := Int.eq_ofNat_of_zero_le l0
  obtain ⟨b1, s1, g1⟩ := open_bytes (hval 1 25 v1 rfl rfl) h1
  have e1 := small_bytes hk (j := 1) rfl g1
  clear hA0
  simp only [List.append_nil] at hW'
  have hl : laidMet Tryd.prog Rows.frameUnpacksRow.laid W := hL
  obtain ⟨Z, hg⟩ := zip_of_mem hl (by simp [Rows.frameUnpacksRow])
  have hS := seal_of_mem hl (by simp [Rows.frameUnpacksRow])
  have hreads : ∀ g ∈ ([0, 1, 2, 3, 4, 5, 6, 7, 8, 9, 10, 11, 12, 13, 14, 17, 18, 19, 20, 21, 22, 23, 24, 25] : List Nat), ErrRead W g := by
    intro g hg
    simp only [List.mem_cons, List.not_mem_nil, or_false] at hg
    rcases hg with rfl | rfl | rfl | rfl | rfl | rfl | rfl | rfl | rfl | rfl | rfl | rfl | rfl | rfl | rfl | rfl | rfl | rfl | rfl | rfl | rfl | rfl | rfl | rfl
    · exact read0 hl (by simp [Rows.frameUnpacksRow])
    · exact read1 hl (by simp [Rows.frameUnpacksRow])
    · exact read2 hl (by simp [Rows.frameUnpacksRow])
    · exact read3 hl (by simp [Rows.frameUnpacksRow])
    · exact read4 hl (by simp [Rows.frameUnpacksRow])
    · exact read5 hl (by simp [Rows.frameUnpacksRow])
    · exact read6 hl (by simp [Rows.frameUnpacksRow])
    · exact read7 hl (by simp [Rows.frameUnpacksRow])
    · exact read8 hl (by simp [Rows.frameUnpacksRow])
    · exact read9 hl (by simp [Rows.frameUnpacksRow])
    · exact read10 hl (by simp [Rows.frameUnpacksRow])
    · exact read11 hl (by simp [Rows.frameUnpacksRow])
    · exact read12 hl (by simp [Rows.frameUnpacksRow])
    · exact read13 hl (by simp [Rows.frameUnpacksRow])
    · exact read14 hl (by simp [Rows.frameUnpacksRow])
    · exact read17 hl (by simp [Rows.frameUnpacksRow])
    · exact read18 hl (by simp [Rows.frameUnpacksRow])
    · exact read19 hl (by simp [Rows.frameUnpacksRow])
    · exact read20 hl (by simp [Rows.frameUnpacksRow])
    · exact read21 hl (by simp [Rows.frameUnpacksRow])
    · exact read22 hl (by simp [Rows.frameUnpacksRow])
    · exact read23 hl (by simp [Rows.frameUnpacksRow])
    · exact read24 hl (by simp [Rows.frameUnpacksRow])
    · exact read25 hl (by simp [Rows.frameUnpacksRow])
  obtain ⟨E, hE⟩ := errs_of_reads hreads (by decide +kernel)
  have hg2 := World.block_lt_of_cell? W _ (hE.cell 25 (by decide))
  simp only at hg2
  refine (walk W Z hS E hE (by omega) n0 (by omega) _ b1 s1 (by omega)).mono fun e W' ⟨he, hb⟩ => ?_
  subst he
  exact ⟨_, rfl, law_post hW' rfl rfl rfl (by kernel_rfl) hb⟩

noncomputable def laidWorld (os : Os) : World := World.doorLaid Tryd.prog 475 os
noncomputable def wargs : Array Value := #[.int .u8 0, .slice none 0 0]
theorem laid_met (os : Os) : laidMetH Tryd.prog Rows.frameUnpacksRow.laid ((laidWorld os).forCall (fun _ _ => 0) ⟨#[], wargs, []⟩).memory :=
  laidMetH_of_parts3 (fuel := 8) (laidMet_of_run' 8 (by kernel_rfl) (by kernel_rfl)) (by kernel_rfl) (by kernel_rfl)
theorem reads (os : Os) {H : Type} (enc : TypeId × Value → H) : ∃ places, DataW.whole enc Tryd.prog ((laidWorld os).forCall (fun _ _ => 0) ⟨#[], wargs, []⟩).memory Tryd.f16.params.toList Rows.frameUnpacksSpec.vars false wargs.toList 8 = some ([.lit (.int .u8 0), .nil], [], places) :=
  ⟨[], by kernel_rfl⟩

set_option maxRecDepth 100000 in
theorem lifted (os : Os) (started : os.Started) (H : Type) (enc : TypeId × Value → H) (F : Stop.Interp) :
    ReturnsInHanded {} Tryd.checked os 16 .any ((Rows.OpenSpec.upto Rows.frameUnpacksSpec).preRow enc Tryd.prog Tryd.f16 Rows.frameUnpacksUptoRow.domain false Rows.frameUnpacksUptoRow.laid) (((Rows.OpenSpec.upto Rows.frameUnpacksSpec).at F).post enc Tryd.prog Tryd.f16 false true false false) := by
  obtain ⟨places, hx⟩ := reads os enc
  refine returnsInHanded_of_row (C := Tryd.checked) (s := Rows.OpenSpec.upto Rows.frameUnpacksSpec) own started (by kernel_rfl) Tryd.func16
    (witness_row_atRef (enc := enc) (C := Tryd.checked) false (laidWorld os) wargs rfl (by kernel_rfl) (by kernel_rfl) (by kernel_rfl)
      (OpenSpec.preRow_of_cond 8 hx (by kernel_rfl) (fun k hk => by cases hk; kernel_rfl) (by kernel_rfl) (laid_met os))) ?_
  intro W base args ds gs before hval hW _ hcond hsz hL _ _
  exact contract H enc W base args ds gs before hval hW hL hsz (hcond _ rfl)

theorem fact0 : (Rows.frameUnpacksUptoRow.wf (OpenSpec.ofChange (Rows.OpenSpec.upto Rows.frameUnpacksSpec).bare)) = true := by kernel_rfl
theorem fact3 : (Tryd.f16.params.all (Tryd.prog.readableRec ·)) = true := by kernel_rfl
theorem fact4 : (namedTie Tryd.prog Rows.frameUnpacksUptoRow.named (Rows.OpenSpec.upto Rows.frameUnpacksSpec).bare.vars) = true := by kernel_rfl
theorem fact5 : ((Rows.frameUnpacksUptoRow.stops == [])) = true := by kernel_rfl
theorem fact7 : ((Rows.frameUnpacksUptoRow.knobs == [])) = true := by kernel_rfl
theorem fact9 : ((Rows.frameUnpacksUptoRow.inPlace == Tryd.prog.inPlace 16)) = true := by kernel_rfl
theorem fact10 : ((Rows.frameUnpacksUptoRow.unfollowed == Tryd.prog.unfollowed 16)) = true := by kernel_rfl
theorem fact11 : ((Rows.frameUnpacksUptoRow.recurses == Tryd.prog.recurses 16)) = true := by kernel_rfl
theorem fact12 : ((Rows.frameUnpacksUptoRow.named == Tryd.prog.varsNamed 16)) = true := by kernel_rfl
theorem fact13 : ((Rows.frameUnpacksUptoRow.maps == (Tryd.f16.params.toList ++ (Rows.OpenSpec.upto Rows.frameUnpacksSpec).bare.plain.varTypes Tryd.prog).any (Tryd.prog.mapsRec ·))) = true := by kernel_rfl
theorem fact14 : ((Rows.frameUnpacksUptoRow.ifaces == (Tryd.f16.params.toList ++ (Rows.OpenSpec.upto Rows.frameUnpacksSpec).bare.plain.varTypes Tryd.prog).any (Tryd.prog.ifacesRec ·))) = true := by kernel_rfl
theorem fact15 : ((Rows.frameUnpacksUptoRow.mapsOut == Tryd.prog.mapsAmong Tryd.f16.resultTypes.toList)) = true := by kernel_rfl
theorem fact16 : ((Rows.frameUnpacksUptoRow.loops == (Tryd.f16.params.toList ++ (Rows.OpenSpec.upto Rows.frameUnpacksSpec).bare.plain.varTypes Tryd.prog).any (Tryd.prog.loopsFrom ·))) = true := by kernel_rfl
theorem fact17 : ((Rows.frameUnpacksUptoRow.wideKeys == (Tryd.f16.params.toList ++ (Rows.OpenSpec.upto Rows.frameUnpacksSpec).bare.plain.varTypes Tryd.prog ++ Tryd.f16.resultTypes.toList).any (Tryd.prog.wideKeysFrom ·))) = true := by kernel_rfl
theorem fact18 : ((Rows.OpenSpec.upto Rows.frameUnpacksSpec).bare.vars.all (Tryd.prog.varReadable ·)) = true := by kernel_rfl
theorem fact19 : (Tryd.f16.resultTypes.all (fun t => Tryd.prog.readableRec t && decide (t < Tryd.prog.types.size))) = true := by kernel_rfl
theorem fact20 : ((Rows.frameUnpacksUptoRow.ifacesOut == Tryd.f16.resultTypes.toList.any (Tryd.prog.ifacesRec ·))) = true := by kernel_rfl
theorem fact21 : ((Rows.frameUnpacksUptoRow.loopsOut == Tryd.f16.resultTypes.toList.any (Tryd.prog.loopsFrom ·))) = true := by kernel_rfl
theorem fact22 : ((Rows.frameUnpacksUptoRow.plainKeys == Tryd.prog.plainKeys)) = true := by rw [Tryd.keys]; kernel_rfl
theorem fact23 : (Rows.frameUnpacksUptoRow.shortTexts.isNone) = true := by kernel_rfl
theorem fact26 : ((Rows.frameUnpacksUptoRow.lifted == Tryd.prog.liftsFinal)) = true := by rw [Tryd.lifts]; kernel_rfl
theorem fact27 : ((Tryd.prog.make == some Rows.frameUnpacksUptoRow.make)) = true := by rw [Tryd.makes]; kernel_rfl
theorem fact29 : ((Rows.frameUnpacksUptoRow.pinned == Rows.frameUnpacksUptoRow.pinnedBy)) = true := by kernel_rfl
theorem fact30 : ((Rows.frameUnpacksUptoRow.veiled == (Tryd.f16.params.toList ++ (Rows.OpenSpec.upto Rows.frameUnpacksSpec).bare.plain.varTypes Tryd.prog ++ Tryd.f16.resultTypes.toList).any (Tryd.prog.veiledRec ·))) = true := by kernel_rfl
theorem fact31 : (Rows.frameUnpacksUptoRow.veiledFits Tryd.prog Tryd.f16.params.toList (Tryd.f16.params.toList ++ (Rows.OpenSpec.upto Rows.frameUnpacksSpec).bare.plain.varTypes Tryd.prog ++ Tryd.f16.resultTypes.toList)) = true := by kernel_rfl
theorem closed : joinedFacts Tryd.prog 16 Tryd.f16 (Rows.OpenSpec.upto Rows.frameUnpacksSpec).bare Rows.frameUnpacksUptoRow = true :=
  facts_of fact0 Tryd.laidOut Tryd.rowed fact3 fact4 fact5 Tryd.noStops fact7 Tryd.noKnobs fact9 fact10 fact11 fact12 fact13 fact14 fact15 fact16 fact17 fact18 fact19 fact20 fact21 fact22 fact23 Tryd.heard Tryd.mayEnter fact26 fact27 (by kernel_rfl) fact29 fact30 fact31
theorem named : Tryd.prog.funcNamed Rows.frameUnpacksUptoRow.func = some 16 := by kernel_rfl
theorem instanced : Tryd.f16.isInstance Tryd.prog Rows.frameUnpacksUptoRow.origin Rows.frameUnpacksUptoRow.targs := of_decide_eq_true (by kernel_rfl)
theorem wrapped : Tryd.f16.isWrapper Tryd.prog Rows.frameUnpacksUptoRow.wrapper Rows.frameUnpacksUptoRow.mainSum := by unfold Func.isWrapper; first | (rw [if_pos (by decide +kernel)]; kernel_rfl) | (rw [if_neg (by decide +kernel)]; exact ⟨rfl, rfl⟩)
theorem said : Rows.FrameUnpacksUptoSaid :=
  OpenClaim.holds_of_cond 16 Tryd.f16 rfl rfl rfl rfl rfl rfl rfl ⟨rfl, rfl, rfl, rfl, rfl⟩ rfl rfl rfl rfl rfl named Tryd.func16 closed
    instanced wrapped
    (fun os started H enc _ F => by rw [OpenClaim.pre_eq_preRow]; exact lifted os started H enc F)

theorem plain (f : FuncId) (fn : Func) (hf : Tryd.pinned.checked.prog.funcNamed "concord/concordlaw02.FrameUnpacks" = some f) (hfn : Tryd.pinned.checked.prog.funcs[f]? = some fn) :
    true = Tryd.pinned.checked.prog.looks [] ∧ ∀ (j : Nat) t, fn.params[j]? = some t → Tryd.pinned.checked.prog.wantsStandIn t = false := by
  obtain rfl : f = 16 := Option.some.inj ((show Tryd.prog.funcNamed "concord/concordlaw02.FrameUnpacks" = some 16 by kernel_rfl).symm.trans hf) |>.symm
  obtain rfl : fn = Tryd.f16 := (Option.some.inj (Tryd.func16.symm.trans hfn)).symm
  have hall : Tryd.f16.params.toList.all (fun t => !Tryd.pinned.checked.prog.wantsStandIn t) = true := by kernel_rfl
  refine ⟨by kernel_rfl, fun j t ht => ?_⟩
  have := List.all_eq_true.1 hall t (by simpa using Array.mem_of_getElem? ht)
  simpa using this

/-- THE CARD -/
theorem card : Rows.FrameUnpacksUptoCardSaid :=
  Claim7.holds_tied_plain_at .later [] _ _ _ _ said (fun _ h => by cases h) (by kernel_rfl) (fun _ h => by cases h) frameUnpacksUpto_row_tie rfl ⟨rfl, rfl⟩ (by kernel_rfl) rfl plain (by kernel_rfl)
end Go.Proofs.YtgebekklkodpaaaDoor.frameUnpacks
