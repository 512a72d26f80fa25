/- Proved: for every input, DocsetPlays returns true (every call over four sets, in every order: each answer is the document's), and nothing that lay in memory ahead of the call has changed. Conditions: the package variables that the row lists (the errors, the table of math/bits) hold what their initialisers lay; the card ties that to the text. -/
import Derived.Test.YtmkbbekeimnajaaDoorMPlays0
import Derived.Test.YtmkbbekeimnajaaDoorMPlays1
import Derived.Test.YtmkbbekeimnajaaDoorMPlays2
import Derived.Test.YtmkbbekeimnajaaDoorMPlays3
import Derived.Test.YtmkbbekeimnajaaDoorMPlays4
import Derived.Test.YtmkbbekeimnajaaDoorMPlays5
import Derived.Test.YtmkbbekeimnajaaDoorMPlays6
import Derived.Test.YtmkbbekeimnajaaDoorMPlays7
import Derived.Test.YtmkbbekeimnajaaDoorMPlays8
import Derived.Test.YtmkbbekeimnajaaDoorMPlays9
import Derived.Test.YtmkbbekeimnajaaDoorMPlays10
import Derived.Test.YtmkbbekeimnajaaDoorMPlays11
import Derived.Test.YtmkbbekeimnajaaDoorMPlays12
import Derived.Test.YtmkbbekeimnajaaDoorMPlays13
import Derived.Test.YtmkbbekeimnajaaDoorMPlays14
import Derived.Test.YtmkbbekeimnajaaDoorMPlays15
import Derived.Test.YtmkbbekeimnajaaDoorMPlays16
import Derived.Test.YtmkbbekeimnajaaDoorMPlays17
import Derived.Test.YtmkbbekeimnajaaDoorMPlays18
import Derived.Test.YtmkbbekeimnajaaDoorMPlays19
import Derived.Test.YtmkbbekeimnajaaDoorMPlays20
import Derived.Test.YtmkbbekeimnajaaDoorMPlays21
import Derived.Test.YtmkbbekeimnajaaDoorMPlays22
import Derived.Deep.DeepWitnessRowRef
namespace Go.Proofs.YtmkbbekeimnajaaDoor.docsetPlays
open Go Go.ChangeShapes Go.WideShapes Go.ChangeAt Go.RowKit Go.Proofs.YtmkbbekeimnajaaDoor Ds
set_option maxRecDepth 100000 in
theorem contract (H : Type) (enc : TypeId × Value → H) (W : World) (base : Nat) (args : Array Value) (ds gs : List (DataW H)) (before : List MemPlace)
    (hval : ∀ (j : Nat) t v, Tryd.f10.params[j]? = some t → args[j]? = some v → Value.okWide Tryd.prog W .any base t v)
    (hW : DataW.Whole enc Tryd.prog Tryd.f10.params.toList Rows.docsetPlaysSpec.vars false W args.toList ds gs before) (hL : laidMetH Tryd.prog Rows.docsetPlaysRow.laid W)
    (hsz : (DataW.weightsEach Tryd.prog (Tryd.f10.params.toList ++ []) (ds ++ gs)).all (· ≤ reachBytes) = true) :
    Calls Tryd.prog 10 args W fun e W' => ∃ v, e = .returned v ∧ Rows.docsetPlaysSpec.post enc Tryd.prog Tryd.f10 false true false false W args v W' := by
  have hW' := hW
  obtain ⟨p, q, hA0, hV, rfl, hfz, hnd⟩ := hW
  have hA : DataW.TrodAll enc Tryd.prog W 0 (fun _ => true) true Tryd.f10.params.toList args.toList ds p := hA0
  rw [Tryd.params10] at hA hval hsz
  obtain ⟨v0, vs0, d0, ds0, p0, q0, hargs, rfl, rfl, h0, r0⟩ := trodAll_cons hA
  obtain ⟨rfl, rfl, rfl⟩ := trodAll_nil r0
  obtain rfl : args = #[v0] := by cases args; simp_all
  obtain ⟨rfl, rfl⟩ := trodVars_none hV
  obtain ⟨b0, s0, g0⟩ := open_ops (hval 0 69 v0 rfl rfl) h0 (weights_le hsz (j := 0) rfl rfl)
  obtain ⟨ao0, co0, rfl⟩ := opsAt_form s0
  clear hA0
  simp only [List.append_nil] at hW'
  have hl : laidMet Tryd.prog Rows.docsetPlaysRow.laid W := hL
  have T := debr_of_mem hl (by simp [Rows.docsetPlaysRow])
  have hreads : ∀ g ∈ ([0, 1, 2, 3, 4, 5, 6, 7, 8, 9, 10, 11, 12, 13, 14, 16, 17, 18, 19, 20, 21, 22, 23, 24] : List Nat), ErrRead W g := by
    intro g hg
    simp only [List.mem_cons, List.not_mem_nil, or_false] at hg
    rcases hg with rfl | rfl | rfl | rfl | rfl | rfl | rfl | rfl | rfl | rfl | rfl | rfl | rfl | rfl | rfl | rfl | rfl | rfl | rfl | rfl | rfl | rfl | rfl | rfl
    · exact read0 hl (by simp [Rows.docsetPlaysRow])
    · exact read1 hl (by simp [Rows.docsetPlaysRow])
    · exact read2 hl (by simp [Rows.docsetPlaysRow])
    · exact read3 hl (by simp [Rows.docsetPlaysRow])
    · exact read4 hl (by simp [Rows.docsetPlaysRow])
    · exact read5 hl (by simp [Rows.docsetPlaysRow])
    · exact read6 hl (by simp [Rows.docsetPlaysRow])
    · exact read7 hl (by simp [Rows.docsetPlaysRow])
    · exact read8 hl (by simp [Rows.docsetPlaysRow])
    · exact read9 hl (by simp [Rows.docsetPlaysRow])
    · exact read10 hl (by simp [Rows.docsetPlaysRow])
    · exact read11 hl (by simp [Rows.docsetPlaysRow])
    · exact read12 hl (by simp [Rows.docsetPlaysRow])
    · exact read13 hl (by simp [Rows.docsetPlaysRow])
    · exact read14 hl (by simp [Rows.docsetPlaysRow])
    · exact read16 hl (by simp [Rows.docsetPlaysRow])
    · exact read17 hl (by simp [Rows.docsetPlaysRow])
    · exact read18 hl (by simp [Rows.docsetPlaysRow])
    · exact read19 hl (by simp [Rows.docsetPlaysRow])
    · exact read20 hl (by simp [Rows.docsetPlaysRow])
    · exact read21 hl (by simp [Rows.docsetPlaysRow])
    · exact read22 hl (by simp [Rows.docsetPlaysRow])
    · exact read23 hl (by simp [Rows.docsetPlaysRow])
    · exact read24 hl (by simp [Rows.docsetPlaysRow])
  obtain ⟨E, hE⟩ := errs_of_reads hreads (by decide +kernel)
  have hg2 := World.block_lt_of_cell? W _ (hE.cell 24 (by decide))
  simp only at hg2
  refine (plays_walk W T E hE (by omega) ao0 co0 b0 s0 g0).mono fun e W' ⟨he, hb⟩ => ?_
  subst he
  exact ⟨_, rfl, law_post hW' rfl rfl rfl (by kernel_rfl) hb⟩

noncomputable def laidWorld (os : Os) : World := World.doorLaid Tryd.prog 700 os
noncomputable def wargs : Array Value := #[.slice none 0 0]
theorem laid_met (os : Os) : laidMetH Tryd.prog Rows.docsetPlaysRow.laid ((laidWorld os).forCall (fun _ _ => 0) ⟨#[], wargs, []⟩).memory :=
  laidMetH_of_parts3 (fuel := 8) (laidMet_of_run' 8 (by kernel_rfl) (by kernel_rfl)) (by kernel_rfl) (by kernel_rfl)
theorem reads (os : Os) {H : Type} (enc : TypeId × Value → H) : ∃ places, DataW.whole enc Tryd.prog ((laidWorld os).forCall (fun _ _ => 0) ⟨#[], wargs, []⟩).memory Tryd.f10.params.toList Rows.docsetPlaysSpec.vars false wargs.toList 8 = some ([.nil], [], places) :=
  ⟨[], by kernel_rfl⟩

set_option maxRecDepth 100000 in
theorem lifted (os : Os) (started : os.Started) (H : Type) (enc : TypeId × Value → H) (F : Stop.Interp) :
    ReturnsInHanded {} Tryd.checked os 10 .any ((OpenSpec.ofChange Rows.docsetPlaysSpec).preRow enc Tryd.prog Tryd.f10 Rows.docsetPlaysRow.domain false Rows.docsetPlaysRow.laid) (((OpenSpec.ofChange Rows.docsetPlaysSpec).at F).post enc Tryd.prog Tryd.f10 false true false false) := by
  obtain ⟨places, hx⟩ := reads os enc
  refine returnsInHanded_of_row (C := Tryd.checked) (s := OpenSpec.ofChange Rows.docsetPlaysSpec) own started (by kernel_rfl) Tryd.func10
    (witness_row_atRef (enc := enc) (C := Tryd.checked) false (laidWorld os) wargs rfl (by kernel_rfl) (by kernel_rfl) (by kernel_rfl)
      (OpenSpec.preRow_of_cond 8 hx (by kernel_rfl) (fun k hk => by cases hk) (by kernel_rfl) (laid_met os))) ?_
  intro W base args ds gs before hval hW _ _ hsz hL _ _
  exact contract H enc W base args ds gs before hval hW hL hsz

theorem fact0 : (Rows.docsetPlaysRow.wf (OpenSpec.ofChange (OpenSpec.ofChange Rows.docsetPlaysSpec).bare)) = true := by kernel_rfl
theorem fact3 : (Tryd.f10.params.all (Tryd.prog.readableRec ·)) = true := by kernel_rfl
theorem fact4 : (namedTie Tryd.prog Rows.docsetPlaysRow.named (OpenSpec.ofChange Rows.docsetPlaysSpec).bare.vars) = true := by kernel_rfl
theorem fact5 : ((Rows.docsetPlaysRow.stops == [])) = true := by kernel_rfl
theorem fact7 : ((Rows.docsetPlaysRow.knobs == [])) = true := by kernel_rfl
theorem fact9 : ((Rows.docsetPlaysRow.inPlace == Tryd.prog.inPlace 10)) = true := by kernel_rfl
theorem fact10 : ((Rows.docsetPlaysRow.unfollowed == Tryd.prog.unfollowed 10)) = true := by kernel_rfl
theorem fact11 : ((Rows.docsetPlaysRow.recurses == Tryd.prog.recurses 10)) = true := by kernel_rfl
theorem fact12 : ((Rows.docsetPlaysRow.named == Tryd.prog.varsNamed 10)) = true := by kernel_rfl
theorem fact13 : ((Rows.docsetPlaysRow.maps == (Tryd.f10.params.toList ++ (OpenSpec.ofChange Rows.docsetPlaysSpec).bare.plain.varTypes Tryd.prog).any (Tryd.prog.mapsRec ·))) = true := by kernel_rfl
theorem fact14 : ((Rows.docsetPlaysRow.ifaces == (Tryd.f10.params.toList ++ (OpenSpec.ofChange Rows.docsetPlaysSpec).bare.plain.varTypes Tryd.prog).any (Tryd.prog.ifacesRec ·))) = true := by kernel_rfl
theorem fact15 : ((Rows.docsetPlaysRow.mapsOut == Tryd.prog.mapsAmong Tryd.f10.resultTypes.toList)) = true := by kernel_rfl
theorem fact16 : ((Rows.docsetPlaysRow.loops == (Tryd.f10.params.toList ++ (OpenSpec.ofChange Rows.docsetPlaysSpec).bare.plain.varTypes Tryd.prog).any (Tryd.prog.loopsFrom ·))) = true := by kernel_rfl
theorem fact17 : ((Rows.docsetPlaysRow.wideKeys == (Tryd.f10.params.toList ++ (OpenSpec.ofChange Rows.docsetPlaysSpec).bare.plain.varTypes Tryd.prog ++ Tryd.f10.resultTypes.toList).any (Tryd.prog.wideKeysFrom ·))) = true := by kernel_rfl
theorem fact18 : ((OpenSpec.ofChange Rows.docsetPlaysSpec).bare.vars.all (Tryd.prog.varReadable ·)) = true := by kernel_rfl
theorem fact19 : (Tryd.f10.resultTypes.all (fun t => Tryd.prog.readableRec t && decide (t < Tryd.prog.types.size))) = true := by kernel_rfl
theorem fact20 : ((Rows.docsetPlaysRow.ifacesOut == Tryd.f10.resultTypes.toList.any (Tryd.prog.ifacesRec ·))) = true := by kernel_rfl
theorem fact21 : ((Rows.docsetPlaysRow.loopsOut == Tryd.f10.resultTypes.toList.any (Tryd.prog.loopsFrom ·))) = true := by kernel_rfl
theorem fact22 : ((Rows.docsetPlaysRow.plainKeys == Tryd.prog.plainKeys)) = true := by rw [Tryd.keys]; kernel_rfl
theorem fact23 : (Rows.docsetPlaysRow.shortTexts.isNone) = true := by kernel_rfl
theorem fact26 : ((Rows.docsetPlaysRow.lifted == Tryd.prog.liftsFinal)) = true := by rw [Tryd.lifts]; kernel_rfl
theorem fact27 : ((Tryd.prog.make == some Rows.docsetPlaysRow.make)) = true := by rw [Tryd.makes]; kernel_rfl
theorem fact29 : ((Rows.docsetPlaysRow.pinned == Rows.docsetPlaysRow.pinnedBy)) = true := by kernel_rfl
theorem fact30 : ((Rows.docsetPlaysRow.veiled == (Tryd.f10.params.toList ++ (OpenSpec.ofChange Rows.docsetPlaysSpec).bare.plain.varTypes Tryd.prog ++ Tryd.f10.resultTypes.toList).any (Tryd.prog.veiledRec ·))) = true := by kernel_rfl
theorem fact31 : (Rows.docsetPlaysRow.veiledFits Tryd.prog Tryd.f10.params.toList (Tryd.f10.params.toList ++ (OpenSpec.ofChange Rows.docsetPlaysSpec).bare.plain.varTypes Tryd.prog ++ Tryd.f10.resultTypes.toList)) = true := by kernel_rfl
theorem closed : joinedFacts Tryd.prog 10 Tryd.f10 (OpenSpec.ofChange Rows.docsetPlaysSpec).bare Rows.docsetPlaysRow = true :=
  facts_of fact0 Tryd.laidOut Tryd.rowed fact3 fact4 fact5 Tryd.noStops fact7 Tryd.noKnobs fact9 fact10 fact11 fact12 fact13 fact14 fact15 fact16 fact17 fact18 fact19 fact20 fact21 fact22 fact23 Tryd.heard Tryd.mayEnter fact26 fact27 (by kernel_rfl) fact29 fact30 fact31
theorem named : Tryd.prog.funcNamed Rows.docsetPlaysRow.func = some 10 := by kernel_rfl
theorem instanced : Tryd.f10.isInstance Tryd.prog Rows.docsetPlaysRow.origin Rows.docsetPlaysRow.targs := of_decide_eq_true (by kernel_rfl)
theorem wrapped : Tryd.f10.isWrapper Tryd.prog Rows.docsetPlaysRow.wrapper Rows.docsetPlaysRow.mainSum := by unfold Func.isWrapper; first | (rw [if_pos (by decide +kernel)]; kernel_rfl) | (rw [if_neg (by decide +kernel)]; exact ⟨rfl, rfl⟩)
theorem said : Rows.DocsetPlaysSaid :=
  OpenClaim.holds_of_cond 10 Tryd.f10 rfl rfl rfl rfl rfl rfl rfl ⟨rfl, rfl, rfl, rfl, rfl⟩ rfl rfl rfl rfl rfl named Tryd.func10 closed
    instanced wrapped
    (fun os started H enc _ F => by rw [OpenClaim.pre_eq_preRow]; exact lifted os started H enc F)

theorem plain (f : FuncId) (fn : Func) (hf : Tryd.pinned.checked.prog.funcNamed "concord/concordlaw03.DocsetPlays" = some f) (hfn : Tryd.pinned.checked.prog.funcs[f]? = some fn) :
    true = Tryd.pinned.checked.prog.looks [] ∧ ∀ (j : Nat) t, fn.params[j]? = some t → Tryd.pinned.checked.prog.wantsStandIn t = false := by
  obtain rfl : f = 10 := Option.some.inj ((show Tryd.prog.funcNamed "concord/concordlaw03.DocsetPlays" = some 10 by kernel_rfl).symm.trans hf) |>.symm
  obtain rfl : fn = Tryd.f10 := (Option.some.inj (Tryd.func10.symm.trans hfn)).symm
  have hall : Tryd.f10.params.toList.all (fun t => !Tryd.pinned.checked.prog.wantsStandIn t) = true := by kernel_rfl
  refine ⟨by kernel_rfl, fun j t ht => ?_⟩
  have := List.all_eq_true.1 hall t (by simpa using Array.mem_of_getElem? ht)
  simpa using this

/-- THE CARD -/
theorem card : Rows.DocsetPlaysCardSaid :=
  Claim7.holds_tied_plain_at .later [] _ _ _ _ said (fun _ h => by cases h) (by kernel_rfl) (fun _ h => by cases h) docsetPlays_row_tie rfl ⟨rfl, rfl⟩ (by kernel_rfl) rfl plain (by kernel_rfl)
end Go.Proofs.YtmkbbekeimnajaaDoor.docsetPlays
