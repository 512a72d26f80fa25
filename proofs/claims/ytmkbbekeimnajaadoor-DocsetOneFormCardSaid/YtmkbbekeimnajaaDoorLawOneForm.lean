/- Proved: for every input, DocsetOneForm returns true (what Decode takes is what Encode makes; one member more or less has another form), and nothing that lay in memory ahead of the call has changed. Conditions: the package variables that the row lists (the errors, the table of math/bits) hold what their initialisers lay; the card ties that to the text. -/
import Derived.Test.YtmkbbekeimnajaaDoorWOneForm
import Derived.Test.YtmkbbekeimnajaaDoorOpn
import Derived.Deep.DeepWitnessRowRef
namespace Go.Proofs.YtmkbbekeimnajaaDoor.docsetOneForm
open Go Go.ChangeShapes Go.WideShapes Go.ChangeAt Go.RowKit Go.Proofs.YtmkbbekeimnajaaDoor Ds
set_option maxRecDepth 100000 in
theorem contract (H : Type) (enc : TypeId × Value → H) (W : World) (base : Nat) (args : Array Value) (ds gs : List (DataW H)) (before : List MemPlace)
    (hval : ∀ (j : Nat) t v, Tryd.f7.params[j]? = some t → args[j]? = some v → Value.okWide Tryd.prog W .any base t v)
    (hW : DataW.Whole enc Tryd.prog Tryd.f7.params.toList Rows.docsetOneFormSpec.vars false W args.toList ds gs before) (hL : laidMetH Tryd.prog Rows.docsetOneFormRow.laid W)
    (hsz : (DataW.weightsEach Tryd.prog (Tryd.f7.params.toList ++ []) (ds ++ gs)).all (· ≤ reachBytes) = true) :
    Calls Tryd.prog 7 args W fun e W' => ∃ v, e = .returned v ∧ Rows.docsetOneFormSpec.post enc Tryd.prog Tryd.f7 false true false false W args v W' := by
  have hW' := hW
  obtain ⟨p, q, hA0, hV, rfl, hfz, hnd⟩ := hW
  have hA : DataW.TrodAll enc Tryd.prog W 0 (fun _ => true) true Tryd.f7.params.toList args.toList ds p := hA0
  rw [Tryd.params7] at hA hval hsz
  obtain ⟨v0, vs0, d0, ds0, p0, q0, hargs, rfl, rfl, h0, r0⟩ := trodAll_cons hA
  obtain ⟨v1, vs1, d1, ds1, p1, q1, rfl, rfl, rfl, h1, r1⟩ := trodAll_cons r0
  obtain ⟨rfl, rfl, rfl⟩ := trodAll_nil r1
  obtain rfl : args = #[v0, v1] := by cases args; simp_all
  obtain ⟨rfl, rfl⟩ := trodVars_none hV
  obtain ⟨b0, s0, g0⟩ := open_bytes (hval 0 46 v0 rfl rfl) h0
  obtain ⟨ao0, co0, rfl⟩ := src_form s0
  have e0 := bytes_reach hsz (j := 0) rfl rfl g0
  obtain ⟨x1, rfl, rfl, rfl, w1⟩ := open_int Tryd.underlying3 (hval 1 3 v1 rfl rfl) h1
  obtain ⟨l1, u1⟩ := bounds_i64 w1
  clear hA0
  simp only [List.append_nil] at hW'
  have hl : laidMet Tryd.prog Rows.docsetOneFormRow.laid W := hL
  have T := debr_of_mem hl (by simp [Rows.docsetOneFormRow])
  have hreads : ∀ g ∈ ([0, 1, 2, 3, 4, 5, 6, 7, 8, 9, 10, 11, 12, 13, 14, 16, 17, 18, 19, 20, 21, 22, 23, 24] : List Nat), ErrRead W g := by
    intro g hg
    simp only [List.mem_cons, List.not_mem_nil, or_false] at hg
    rcases hg with rfl | rfl | rfl | rfl | rfl | rfl | rfl | rfl | rfl | rfl | rfl | rfl | rfl | rfl | rfl | rfl | rfl | rfl | rfl | rfl | rfl | rfl | rfl | rfl
    · exact read0 hl (by simp [Rows.docsetOneFormRow])
    · exact read1 hl (by simp [Rows.docsetOneFormRow])
    · exact read2 hl (by simp [Rows.docsetOneFormRow])
    · exact read3 hl (by simp [Rows.docsetOneFormRow])
    · exact read4 hl (by simp [Rows.docsetOneFormRow])
    · exact read5 hl (by simp [Rows.docsetOneFormRow])
    · exact read6 hl (by simp [Rows.docsetOneFormRow])
    · exact read7 hl (by simp [Rows.docsetOneFormRow])
    · exact read8 hl (by simp [Rows.docsetOneFormRow])
    · exact read9 hl (by simp [Rows.docsetOneFormRow])
    · exact read10 hl (by simp [Rows.docsetOneFormRow])
    · exact read11 hl (by simp [Rows.docsetOneFormRow])
    · exact read12 hl (by simp [Rows.docsetOneFormRow])
    · exact read13 hl (by simp [Rows.docsetOneFormRow])
    · exact read14 hl (by simp [Rows.docsetOneFormRow])
    · exact read16 hl (by simp [Rows.docsetOneFormRow])
    · exact read17 hl (by simp [Rows.docsetOneFormRow])
    · exact read18 hl (by simp [Rows.docsetOneFormRow])
    · exact read19 hl (by simp [Rows.docsetOneFormRow])
    · exact read20 hl (by simp [Rows.docsetOneFormRow])
    · exact read21 hl (by simp [Rows.docsetOneFormRow])
    · exact read22 hl (by simp [Rows.docsetOneFormRow])
    · exact read23 hl (by simp [Rows.docsetOneFormRow])
    · exact read24 hl (by simp [Rows.docsetOneFormRow])
  obtain ⟨E, hE⟩ := errs_of_reads hreads (by decide +kernel)
  have hg2 := World.block_lt_of_cell? W _ (hE.cell 24 (by decide))
  simp only at hg2
  refine (oneform_walk W T E hE (by omega) ao0 co0 b0 s0 (by omega) x1).mono fun e W' ⟨he, hb⟩ => ?_
  subst he
  exact ⟨_, rfl, law_post hW' rfl rfl rfl (by kernel_rfl) hb⟩

noncomputable def laidWorld (os : Os) : World := World.doorLaid Tryd.prog 700 os
noncomputable def wargs : Array Value := #[.slice none 0 0, .int .i64 0]
theorem laid_met (os : Os) : laidMetH Tryd.prog Rows.docsetOneFormRow.laid ((laidWorld os).forCall (fun _ _ => 0) ⟨#[], wargs, []⟩).memory :=
  laidMetH_of_parts3 (fuel := 8) (laidMet_of_run' 8 (by kernel_rfl) (by kernel_rfl)) (by kernel_rfl) (by kernel_rfl)
theorem reads (os : Os) {H : Type} (enc : TypeId × Value → H) : ∃ places, DataW.whole enc Tryd.prog ((laidWorld os).forCall (fun _ _ => 0) ⟨#[], wargs, []⟩).memory Tryd.f7.params.toList Rows.docsetOneFormSpec.vars false wargs.toList 8 = some ([.nil, .lit (.int .i64 0)], [], places) :=
  ⟨[], by kernel_rfl⟩

set_option maxRecDepth 100000 in
theorem lifted (os : Os) (started : os.Started) (H : Type) (enc : TypeId × Value → H) (F : Stop.Interp) :
    ReturnsInHanded {} Tryd.checked os 7 .any ((OpenSpec.ofChange Rows.docsetOneFormSpec).preRow enc Tryd.prog Tryd.f7 Rows.docsetOneFormRow.domain false Rows.docsetOneFormRow.laid) (((OpenSpec.ofChange Rows.docsetOneFormSpec).at F).post enc Tryd.prog Tryd.f7 false true false false) := by
  obtain ⟨places, hx⟩ := reads os enc
  refine returnsInHanded_of_row (C := Tryd.checked) (s := OpenSpec.ofChange Rows.docsetOneFormSpec) own started (by kernel_rfl) Tryd.func7
    (witness_row_atRef (enc := enc) (C := Tryd.checked) false (laidWorld os) wargs rfl (by kernel_rfl) (by kernel_rfl) (by kernel_rfl)
      (OpenSpec.preRow_of_cond 8 hx (by kernel_rfl) (fun k hk => by cases hk) (by kernel_rfl) (laid_met os))) ?_
  intro W base args ds gs before hval hW _ _ hsz hL _ _
  exact contract H enc W base args ds gs before hval hW hL hsz

theorem fact0 : (Rows.docsetOneFormRow.wf (OpenSpec.ofChange (OpenSpec.ofChange Rows.docsetOneFormSpec).bare)) = true := by kernel_rfl
theorem fact3 : (Tryd.f7.params.all (Tryd.prog.readableRec ·)) = true := by kernel_rfl
theorem fact4 : (namedTie Tryd.prog Rows.docsetOneFormRow.named (OpenSpec.ofChange Rows.docsetOneFormSpec).bare.vars) = true := by kernel_rfl
theorem fact5 : ((Rows.docsetOneFormRow.stops == [])) = true := by kernel_rfl
theorem fact7 : ((Rows.docsetOneFormRow.knobs == [])) = true := by kernel_rfl
theorem fact9 : ((Rows.docsetOneFormRow.inPlace == Tryd.prog.inPlace 7)) = true := by kernel_rfl
theorem fact10 : ((Rows.docsetOneFormRow.unfollowed == Tryd.prog.unfollowed 7)) = true := by kernel_rfl
theorem fact11 : ((Rows.docsetOneFormRow.recurses == Tryd.prog.recurses 7)) = true := by kernel_rfl
theorem fact12 : ((Rows.docsetOneFormRow.named == Tryd.prog.varsNamed 7)) = true := by kernel_rfl
theorem fact13 : ((Rows.docsetOneFormRow.maps == (Tryd.f7.params.toList ++ (OpenSpec.ofChange Rows.docsetOneFormSpec).bare.plain.varTypes Tryd.prog).any (Tryd.prog.mapsRec ·))) = true := by kernel_rfl
theorem fact14 : ((Rows.docsetOneFormRow.ifaces == (Tryd.f7.params.toList ++ (OpenSpec.ofChange Rows.docsetOneFormSpec).bare.plain.varTypes Tryd.prog).any (Tryd.prog.ifacesRec ·))) = true := by kernel_rfl
theorem fact15 : ((Rows.docsetOneFormRow.mapsOut == Tryd.prog.mapsAmong Tryd.f7.resultTypes.toList)) = true := by kernel_rfl
theorem fact16 : ((Rows.docsetOneFormRow.loops == (Tryd.f7.params.toList ++ (OpenSpec.ofChange Rows.docsetOneFormSpec).bare.plain.varTypes Tryd.prog).any (Tryd.prog.loopsFrom ·))) = true := by kernel_rfl
theorem fact17 : ((Rows.docsetOneFormRow.wideKeys == (Tryd.f7.params.toList ++ (OpenSpec.ofChange Rows.docsetOneFormSpec).bare.plain.varTypes Tryd.prog ++ Tryd.f7.resultTypes.toList).any (Tryd.prog.wideKeysFrom ·))) = true := by kernel_rfl
theorem fact18 : ((OpenSpec.ofChange Rows.docsetOneFormSpec).bare.vars.all (Tryd.prog.varReadable ·)) = true := by kernel_rfl
theorem fact19 : (Tryd.f7.resultTypes.all (fun t => Tryd.prog.readableRec t && decide (t < Tryd.prog.types.size))) = true := by kernel_rfl
theorem fact20 : ((Rows.docsetOneFormRow.ifacesOut == Tryd.f7.resultTypes.toList.any (Tryd.prog.ifacesRec ·))) = true := by kernel_rfl
theorem fact21 : ((Rows.docsetOneFormRow.loopsOut == Tryd.f7.resultTypes.toList.any (Tryd.prog.loopsFrom ·))) = true := by kernel_rfl
theorem fact22 : ((Rows.docsetOneFormRow.plainKeys == Tryd.prog.plainKeys)) = true := by rw [Tryd.keys]; kernel_rfl
theorem fact23 : (Rows.docsetOneFormRow.shortTexts.isNone) = true := by kernel_rfl
theorem fact26 : ((Rows.docsetOneFormRow.lifted == Tryd.prog.liftsFinal)) = true := by rw [Tryd.lifts]; kernel_rfl
theorem fact27 : ((Tryd.prog.make == some Rows.docsetOneFormRow.make)) = true := by rw [Tryd.makes]; kernel_rfl
theorem fact29 : ((Rows.docsetOneFormRow.pinned == Rows.docsetOneFormRow.pinnedBy)) = true := by kernel_rfl
theorem fact30 : ((Rows.docsetOneFormRow.veiled == (Tryd.f7.params.toList ++ (OpenSpec.ofChange Rows.docsetOneFormSpec).bare.plain.varTypes Tryd.prog ++ Tryd.f7.resultTypes.toList).any (Tryd.prog.veiledRec ·))) = true := by kernel_rfl
theorem fact31 : (Rows.docsetOneFormRow.veiledFits Tryd.prog Tryd.f7.params.toList (Tryd.f7.params.toList ++ (OpenSpec.ofChange Rows.docsetOneFormSpec).bare.plain.varTypes Tryd.prog ++ Tryd.f7.resultTypes.toList)) = true := by kernel_rfl
theorem closed : joinedFacts Tryd.prog 7 Tryd.f7 (OpenSpec.ofChange Rows.docsetOneFormSpec).bare Rows.docsetOneFormRow = true :=
  facts_of fact0 Tryd.laidOut Tryd.rowed fact3 fact4 fact5 Tryd.noStops fact7 Tryd.noKnobs fact9 fact10 fact11 fact12 fact13 fact14 fact15 fact16 fact17 fact18 fact19 fact20 fact21 fact22 fact23 Tryd.heard Tryd.mayEnter fact26 fact27 (by kernel_rfl) fact29 fact30 fact31
theorem named : Tryd.prog.funcNamed Rows.docsetOneFormRow.func = some 7 := by kernel_rfl
theorem instanced : Tryd.f7.isInstance Tryd.prog Rows.docsetOneFormRow.origin Rows.docsetOneFormRow.targs := of_decide_eq_true (by kernel_rfl)
theorem wrapped : Tryd.f7.isWrapper Tryd.prog Rows.docsetOneFormRow.wrapper Rows.docsetOneFormRow.mainSum := by unfold Func.isWrapper; first | (rw [if_pos (by decide +kernel)]; kernel_rfl) | (rw [if_neg (by decide +kernel)]; exact ⟨rfl, rfl⟩)
theorem said : Rows.DocsetOneFormSaid :=
  OpenClaim.holds_of_cond 7 Tryd.f7 rfl rfl rfl rfl rfl rfl rfl ⟨rfl, rfl, rfl, rfl, rfl⟩ rfl rfl rfl rfl rfl named Tryd.func7 closed
    instanced wrapped
    (fun os started H enc _ F => by rw [OpenClaim.pre_eq_preRow]; exact lifted os started H enc F)

theorem plain (f : FuncId) (fn : Func) (hf : Tryd.pinned.checked.prog.funcNamed "concord/concordlaw03.DocsetOneForm" = some f) (hfn : Tryd.pinned.checked.prog.funcs[f]? = some fn) :
    true = Tryd.pinned.checked.prog.looks [] ∧ ∀ (j : Nat) t, fn.params[j]? = some t → Tryd.pinned.checked.prog.wantsStandIn t = false := by
  obtain rfl : f = 7 := Option.some.inj ((show Tryd.prog.funcNamed "concord/concordlaw03.DocsetOneForm" = some 7 by kernel_rfl).symm.trans hf) |>.symm
  obtain rfl : fn = Tryd.f7 := (Option.some.inj (Tryd.func7.symm.trans hfn)).symm
  have hall : Tryd.f7.params.toList.all (fun t => !Tryd.pinned.checked.prog.wantsStandIn t) = true := by kernel_rfl
  refine ⟨by kernel_rfl, fun j t ht => ?_⟩
  have := List.all_eq_true.1 hall t (by simpa using Array.mem_of_getElem? ht)
  simpa using this

/-- THE CARD -/
theorem card : Rows.DocsetOneFormCardSaid :=
  Claim7.holds_tied_plain_at .later [] _ _ _ _ said (fun _ h => by cases h) (by kernel_rfl) (fun _ h => by cases h) docsetOneForm_row_tie rfl ⟨rfl, rfl⟩ (by kernel_rfl) rfl plain (by kernel_rfl)
end Go.Proofs.YtmkbbekeimnajaaDoor.docsetOneForm
