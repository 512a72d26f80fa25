/- Proved: for every input, DocsetReads returns true (what the document's own reading takes, and what it makes of it, is what Decode takes and makes), and nothing that lay in memory ahead of the call has changed. Conditions: the package variables that the row lists (the errors, the table of math/bits) hold what their initialisers lay; the card ties that to the text. -/
import Derived.Test.YtmkbbekeimnajaaDoorMReads0
import Derived.Test.YtmkbbekeimnajaaDoorMReads1
import Derived.Test.YtmkbbekeimnajaaDoorMReads2
import Derived.Test.YtmkbbekeimnajaaDoorMReads3
import Derived.Test.YtmkbbekeimnajaaDoorMReads4
import Derived.Test.YtmkbbekeimnajaaDoorMReads5
import Derived.Test.YtmkbbekeimnajaaDoorMReads6
import Derived.Test.YtmkbbekeimnajaaDoorMReads7
import Derived.Test.YtmkbbekeimnajaaDoorMReads8
import Derived.Test.YtmkbbekeimnajaaDoorMReads9
import Derived.Test.YtmkbbekeimnajaaDoorMReads10
import Derived.Test.YtmkbbekeimnajaaDoorMReads11
import Derived.Test.YtmkbbekeimnajaaDoorMReads12
import Derived.Deep.DeepWitnessRowRef
namespace Go.Proofs.YtmkbbekeimnajaaDoor.docsetReads
open Go Go.ChangeShapes Go.WideShapes Go.ChangeAt Go.RowKit Go.Proofs.YtmkbbekeimnajaaDoor Ds
set_option maxRecDepth 100000 in
theorem contract (H : Type) (enc : TypeId × Value → H) (W : World) (base : Nat) (args : Array Value) (ds gs : List (DataW H)) (before : List MemPlace)
    (hval : ∀ (j : Nat) t v, Tryd.f6.params[j]? = some t → args[j]? = some v → Value.okWide Tryd.prog W .any base t v)
    (hW : DataW.Whole enc Tryd.prog Tryd.f6.params.toList Rows.docsetReadsSpec.vars false W args.toList ds gs before) (hL : laidMetH Tryd.prog Rows.docsetReadsRow.laid W)
    (hsz : (DataW.weightsEach Tryd.prog (Tryd.f6.params.toList ++ []) (ds ++ gs)).all (· ≤ reachBytes) = true) :
    Calls Tryd.prog 6 args W fun e W' => ∃ v, e = .returned v ∧ Rows.docsetReadsSpec.post enc Tryd.prog Tryd.f6 false true false false W args v W' := by
  have hW' := hW
  obtain ⟨p, q, hA0, hV, rfl, hfz, hnd⟩ := hW
  have hA : DataW.TrodAll enc Tryd.prog W 0 (fun _ => true) true Tryd.f6.params.toList args.toList ds p := hA0
  rw [Tryd.params6] at hA hval hsz
  obtain ⟨v0, vs0, d0, ds0, p0, q0, hargs, rfl, rfl, h0, r0⟩ := trodAll_cons hA
  obtain ⟨rfl, rfl, rfl⟩ := trodAll_nil r0
  obtain rfl : args = #[v0] := by cases args; simp_all
  obtain ⟨rfl, rfl⟩ := trodVars_none hV
  obtain ⟨b0, s0, g0⟩ := open_bytes (hval 0 46 v0 rfl rfl) h0
  obtain ⟨ao0, co0, rfl⟩ := src_form s0
  have e0 := bytes_reach hsz (j := 0) rfl rfl g0
  clear hA0
  simp only [List.append_nil] at hW'
  have hl : laidMet Tryd.prog Rows.docsetReadsRow.laid W := hL
  have T := debr_of_mem hl (by simp [Rows.docsetReadsRow])
  have hreads : ∀ g ∈ ([0, 1, 2, 3, 4, 5, 6, 7, 8, 9, 10, 11, 12, 13, 14, 16, 17, 18, 19, 20, 21, 22, 23, 24] : List Nat), ErrRead W g := by
    intro g hg
    simp only [List.mem_cons, List.not_mem_nil, or_false] at hg
    rcases hg with rfl | rfl | rfl | rfl | rfl | rfl | rfl | rfl | rfl | rfl | rfl | rfl | rfl | rfl | rfl | rfl | rfl | rfl | rfl | rfl | rfl | rfl | rfl | rfl
    · exact read0 hl (by simp [Rows.docsetReadsRow])
    · exact read1 hl (by simp [Rows.docsetReadsRow])
    · exact read2 hl (by simp [Rows.docsetReadsRow])
    · exact read3 hl (by simp [Rows.docsetReadsRow])
    · exact read4 hl (by simp [Rows.docsetReadsRow])
    · exact read5 hl (by simp [Rows.docsetReadsRow])
    · exact read6 hl (by simp [Rows.docsetReadsRow])
    · exact read7 hl (by simp [Rows.docsetReadsRow])
    · exact read8 hl (by simp [Rows.docsetReadsRow])
    · exact read9 hl (by simp [Rows.docsetReadsRow])
    · exact read10 hl (by simp [Rows.docsetReadsRow])
    · exact read11 hl (by simp [Rows.docsetReadsRow])
    · exact read12 hl (by simp [Rows.docsetReadsRow])
    · exact read13 hl (by simp [Rows.docsetReadsRow])
    · exact read14 hl (by simp [Rows.docsetReadsRow])
    · exact read16 hl (by simp [Rows.docsetReadsRow])
    · exact read17 hl (by simp [Rows.docsetReadsRow])
    · exact read18 hl (by simp [Rows.docsetReadsRow])
    · exact read19 hl (by simp [Rows.docsetReadsRow])
    · exact read20 hl (by simp [Rows.docsetReadsRow])
    · exact read21 hl (by simp [Rows.docsetReadsRow])
    · exact read22 hl (by simp [Rows.docsetReadsRow])
    · exact read23 hl (by simp [Rows.docsetReadsRow])
    · exact read24 hl (by simp [Rows.docsetReadsRow])
  obtain ⟨E, hE⟩ := errs_of_reads hreads (by decide +kernel)
  have hg2 := World.block_lt_of_cell? W _ (hE.cell 24 (by decide))
  simp only at hg2
  refine (reads_walk W T E hE (by omega) ao0 co0 b0 s0 (by omega)).mono fun e W' ⟨he, hb⟩ => ?_
  subst he
  exact ⟨_, rfl, law_post hW' rfl rfl rfl (by kernel_rfl) hb⟩

noncomputable def laidWorld (os : Os) : World := World.doorLaid Tryd.prog 700 os
noncomputable def wargs : Array Value := #[.slice none 0 0]
theorem laid_met (os : Os) : laidMetH Tryd.prog Rows.docsetReadsRow.laid ((laidWorld os).forCall (fun _ _ => 0) ⟨#[], wargs, []⟩).memory :=
  laidMetH_of_parts3 (fuel := 8) (laidMet_of_run' 8 (by kernel_rfl) (by kernel_rfl)) (by kernel_rfl) (by kernel_rfl)
theorem reads (os : Os) {H : Type} (enc : TypeId × Value → H) : ∃ places, DataW.whole enc Tryd.prog ((laidWorld os).forCall (fun _ _ => 0) ⟨#[], wargs, []⟩).memory Tryd.f6.params.toList Rows.docsetReadsSpec.vars false wargs.toList 8 = some ([.nil], [], places) :=
  ⟨[], by kernel_rfl⟩

set_option maxRecDepth 100000 in
theorem lifted (os : Os) (started : os.Started) (H : Type) (enc : TypeId × Value → H) (F : Stop.Interp) :
    ReturnsInHanded {} Tryd.checked os 6 .any ((OpenSpec.ofChange Rows.docsetReadsSpec).preRow enc Tryd.prog Tryd.f6 Rows.docsetReadsRow.domain false Rows.docsetReadsRow.laid) (((OpenSpec.ofChange Rows.docsetReadsSpec).at F).post enc Tryd.prog Tryd.f6 false true false false) := by
  obtain ⟨places, hx⟩ := reads os enc
  refine returnsInHanded_of_row (C := Tryd.checked) (s := OpenSpec.ofChange Rows.docsetReadsSpec) own started (by kernel_rfl) Tryd.func6
    (witness_row_atRef (enc := enc) (C := Tryd.checked) false (laidWorld os) wargs rfl (by kernel_rfl) (by kernel_rfl) (by kernel_rfl)
      (OpenSpec.preRow_of_cond 8 hx (by kernel_rfl) (fun k hk => by cases hk) (by kernel_rfl) (laid_met os))) ?_
  intro W base args ds gs before hval hW _ _ hsz hL _ _
  exact contract H enc W base args ds gs before hval hW hL hsz

theorem fact0 : (Rows.docsetReadsRow.wf (OpenSpec.ofChange (OpenSpec.ofChange Rows.docsetReadsSpec).bare)) = true := by kernel_rfl
theorem fact3 : (Tryd.f6.params.all (Tryd.prog.readableRec ·)) = true := by kernel_rfl
theorem fact4 : (namedTie Tryd.prog Rows.docsetReadsRow.named (OpenSpec.ofChange Rows.docsetReadsSpec).bare.vars) = true := by kernel_rfl
theorem fact5 : ((Rows.docsetReadsRow.stops == [])) = true := by kernel_rfl
theorem fact7 : ((Rows.docsetReadsRow.knobs == [])) = true := by kernel_rfl
theorem fact9 : ((Rows.docsetReadsRow.inPlace == Tryd.prog.inPlace 6)) = true := by kernel_rfl
theorem fact10 : ((Rows.docsetReadsRow.unfollowed == Tryd.prog.unfollowed 6)) = true := by kernel_rfl
theorem fact11 : ((Rows.docsetReadsRow.recurses == Tryd.prog.recurses 6)) = true := by kernel_rfl
theorem fact12 : ((Rows.docsetReadsRow.named == Tryd.prog.varsNamed 6)) = true := by kernel_rfl
theorem fact13 : ((Rows.docsetReadsRow.maps == (Tryd.f6.params.toList ++ (OpenSpec.ofChange Rows.docsetReadsSpec).bare.plain.varTypes Tryd.prog).any (Tryd.prog.mapsRec ·))) = true := by kernel_rfl
theorem fact14 : ((Rows.docsetReadsRow.ifaces == (Tryd.f6.params.toList ++ (OpenSpec.ofChange Rows.docsetReadsSpec).bare.plain.varTypes Tryd.prog).any (Tryd.prog.ifacesRec ·))) = true := by kernel_rfl
theorem fact15 : ((Rows.docsetReadsRow.mapsOut == Tryd.prog.mapsAmong Tryd.f6.resultTypes.toList)) = true := by kernel_rfl
theorem fact16 : ((Rows.docsetReadsRow.loops == (Tryd.f6.params.toList ++ (OpenSpec.ofChange Rows.docsetReadsSpec).bare.plain.varTypes Tryd.prog).any (Tryd.prog.loopsFrom ·))) = true := by kernel_rfl
theorem fact17 : ((Rows.docsetReadsRow.wideKeys == (Tryd.f6.params.toList ++ (OpenSpec.ofChange Rows.docsetReadsSpec).bare.plain.varTypes Tryd.prog ++ Tryd.f6.resultTypes.toList).any (Tryd.prog.wideKeysFrom ·))) = true := by kernel_rfl
theorem fact18 : ((OpenSpec.ofChange Rows.docsetReadsSpec).bare.vars.all (Tryd.prog.varReadable ·)) = true := by kernel_rfl
theorem fact19 : (Tryd.f6.resultTypes.all (fun t => Tryd.prog.readableRec t && decide (t < Tryd.prog.types.size))) = true := by kernel_rfl
theorem fact20 : ((Rows.docsetReadsRow.ifacesOut == Tryd.f6.resultTypes.toList.any (Tryd.prog.ifacesRec ·))) = true := by kernel_rfl
theorem fact21 : ((Rows.docsetReadsRow.loopsOut == Tryd.f6.resultTypes.toList.any (Tryd.prog.loopsFrom ·))) = true := by kernel_rfl
theorem fact22 : ((Rows.docsetReadsRow.plainKeys == Tryd.prog.plainKeys)) = true := by rw [Tryd.keys]; kernel_rfl
theorem fact23 : (Rows.docsetReadsRow.shortTexts.isNone) = true := by kernel_rfl
theorem fact26 : ((Rows.docsetReadsRow.lifted == Tryd.prog.liftsFinal)) = true := by rw [Tryd.lifts]; kernel_rfl
theorem fact27 : ((Tryd.prog.make == some Rows.docsetReadsRow.make)) = true := by rw [Tryd.makes]; kernel_rfl
theorem fact29 : ((Rows.docsetReadsRow.pinned == Rows.docsetReadsRow.pinnedBy)) = true := by kernel_rfl
theorem fact30 : ((Rows.docsetReadsRow.veiled == (Tryd.f6.params.toList ++ (OpenSpec.ofChange Rows.docsetReadsSpec).bare.plain.varTypes Tryd.prog ++ Tryd.f6.resultTypes.toList).any (Tryd.prog.veiledRec ·))) = true := by kernel_rfl
theorem fact31 : (Rows.docsetReadsRow.veiledFits Tryd.prog Tryd.f6.params.toList (Tryd.f6.params.toList ++ (OpenSpec.ofChange Rows.docsetReadsSpec).bare.plain.varTypes Tryd.prog ++ Tryd.f6.resultTypes.toList)) = true := by kernel_rfl
theorem closed : joinedFacts Tryd.prog 6 Tryd.f6 (OpenSpec.ofChange Rows.docsetReadsSpec).bare Rows.docsetReadsRow = true :=
  facts_of fact0 Tryd.laidOut Tryd.rowed fact3 fact4 fact5 Tryd.noStops fact7 Tryd.noKnobs fact9 fact10 fact11 fact12 fact13 fact14 fact15 fact16 fact17 fact18 fact19 fact20 fact21 fact22 fact23 Tryd.heard Tryd.mayEnter fact26 fact27 (by kernel_rfl) fact29 fact30 fact31
theorem named : Tryd.prog.funcNamed Rows.docsetReadsRow.func = some 6 := by kernel_rfl
theorem instanced : Tryd.f6.isInstance Tryd.prog Rows.docsetReadsRow.origin Rows.docsetReadsRow.targs := of_decide_eq_true (by kernel_rfl)
theorem wrapped : Tryd.f6.isWrapper Tryd.prog Rows.docsetReadsRow.wrapper Rows.docsetReadsRow.mainSum := by unfold Func.isWrapper; first | (rw [if_pos (by decide +kernel)]; kernel_rfl) | (rw [if_neg (by decide +kernel)]; exact ⟨rfl, rfl⟩)
theorem said : Rows.DocsetReadsSaid :=
  OpenClaim.holds_of_cond 6 Tryd.f6 rfl rfl rfl rfl rfl rfl rfl ⟨rfl, rfl, rfl, rfl, rfl⟩ rfl rfl rfl rfl rfl named Tryd.func6 closed
    instanced wrapped
    (fun os started H enc _ F => by rw [OpenClaim.pre_eq_preRow]; exact lifted os started H enc F)

theorem plain (f : FuncId) (fn : Func) (hf : Tryd.pinned.checked.prog.funcNamed "concord/concordlaw03.DocsetReads" = some f) (hfn : Tryd.pinned.checked.prog.funcs[f]? = some fn) :
    true = Tryd.pinned.checked.prog.looks [] ∧ ∀ (j : Nat) t, fn.params[j]? = some t → Tryd.pinned.checked.prog.wantsStandIn t = false := by
  obtain rfl : f = 6 := Option.some.inj ((show Tryd.prog.funcNamed "concord/concordlaw03.DocsetReads" = some 6 by kernel_rfl).symm.trans hf) |>.symm
  obtain rfl : fn = Tryd.f6 := (Option.some.inj (Tryd.func6.symm.trans hfn)).symm
  have hall : Tryd.f6.params.toList.all (fun t => !Tryd.pinned.checked.prog.wantsStandIn t) = true := by kernel_rfl
  refine ⟨by kernel_rfl, fun j t ht => ?_⟩
  have := List.all_eq_true.1 hall t (by simpa using Array.mem_of_getElem? ht)
  simpa using this

/-- THE CARD -/
theorem card : Rows.DocsetReadsCardSaid :=
  Claim7.holds_tied_plain_at .later [] _ _ _ _ said (fun _ h => by cases h) (by kernel_rfl) (fun _ h => by cases h) docsetReads_row_tie rfl ⟨rfl, rfl⟩ (by kernel_rfl) rfl plain (by kernel_rfl)
end Go.Proofs.YtmkbbekeimnajaaDoor.docsetReads
