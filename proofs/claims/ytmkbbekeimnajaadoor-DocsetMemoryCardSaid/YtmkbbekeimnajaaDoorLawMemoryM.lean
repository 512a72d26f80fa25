/- Proved: for every input, DocsetMemory returns true (what is handed in stays and is not kept; answers and clones are new memory), and nothing that lay in memory ahead of the call has changed. Conditions: the package variables that the row lists (the errors, the table of math/bits) hold what their initialisers lay; the card ties that to the text. -/
import Derived.Test.YtmkbbekeimnajaaDoorMMemory0
import Derived.Test.YtmkbbekeimnajaaDoorMMemory1
import Derived.Test.YtmkbbekeimnajaaDoorMMemory2
import Derived.Test.YtmkbbekeimnajaaDoorMMemory3
import Derived.Test.YtmkbbekeimnajaaDoorMMemory4
import Derived.Test.YtmkbbekeimnajaaDoorMMemory5
import Derived.Test.YtmkbbekeimnajaaDoorMMemory6
import Derived.Test.YtmkbbekeimnajaaDoorMMemory7
import Derived.Test.YtmkbbekeimnajaaDoorMMemory8
import Derived.Test.YtmkbbekeimnajaaDoorMMemory9
import Derived.Test.YtmkbbekeimnajaaDoorMMemory10
import Derived.Test.YtmkbbekeimnajaaDoorMMemory11
import Derived.Test.YtmkbbekeimnajaaDoorMMemory12
import Derived.Test.YtmkbbekeimnajaaDoorMMemory13
import Derived.Test.YtmkbbekeimnajaaDoorMMemory14
import Derived.Test.YtmkbbekeimnajaaDoorMMemory15
import Derived.Test.YtmkbbekeimnajaaDoorMMemory16
import Derived.Test.YtmkbbekeimnajaaDoorMMemory17
import Derived.Test.YtmkbbekeimnajaaDoorMMemory18
import Derived.Deep.DeepWitnessRowRef
namespace Go.Proofs.YtmkbbekeimnajaaDoor.docsetMemory
open Go Go.ChangeShapes Go.WideShapes Go.ChangeAt Go.RowKit Go.Proofs.YtmkbbekeimnajaaDoor Ds
set_option maxRecDepth 100000 in
theorem contract (H : Type) (enc : TypeId × Value → H) (W : World) (base : Nat) (args : Array Value) (ds gs : List (DataW H)) (before : List MemPlace)
    (hval : ∀ (j : Nat) t v, Tryd.f9.params[j]? = some t → args[j]? = some v → Value.okWide Tryd.prog W .any base t v)
    (hW : DataW.Whole enc Tryd.prog Tryd.f9.params.toList Rows.docsetMemorySpec.vars false W args.toList ds gs before) (hL : laidMetH Tryd.prog Rows.docsetMemoryRow.laid W)
    (hsz : (DataW.weightsEach Tryd.prog (Tryd.f9.params.toList ++ []) (ds ++ gs)).all (· ≤ reachBytes) = true) :
    Calls Tryd.prog 9 args W fun e W' => ∃ v, e = .returned v ∧ Rows.docsetMemorySpec.post enc Tryd.prog Tryd.f9 false true false false W args v W' := by
  have hW' := hW
  obtain ⟨p, q, hA0, hV, rfl, hfz, hnd⟩ := hW
  have hA : DataW.TrodAll enc Tryd.prog W 0 (fun _ => true) true Tryd.f9.params.toList args.toList ds p := hA0
  rw [Tryd.params9] at hA hval hsz
  obtain ⟨v0, vs0, d0, ds0, p0, q0, hargs, rfl, rfl, h0, r0⟩ := trodAll_cons hA
  obtain ⟨v1, vs1, d1, ds1, p1, q1, rfl, rfl, rfl, h1, r1⟩ := trodAll_cons r0
  obtain ⟨v2, vs2, d2, ds2, p2, q2, rfl, rfl, rfl, h2, r2⟩ := trodAll_cons r1
  obtain ⟨rfl, rfl, rfl⟩ := trodAll_nil r2
  obtain rfl : args = #[v0, v1, v2] := by cases args; simp_all
  obtain ⟨rfl, rfl⟩ := trodVars_none hV
  obtain ⟨x0, rfl, rfl, rfl, w0⟩ := open_int Tryd.underlying3 (hval 0 3 v0 rfl rfl) h0
  obtain ⟨l0, u0⟩ := bounds_i64 w0
  obtain ⟨b1, s1, g1⟩ := open_nums (hval 1 22 v1 rfl rfl) h1
  obtain ⟨ao1, co1, rfl⟩ := ints_form s1
  have e1 := nums_reach hsz (j := 1) rfl rfl g1
  obtain ⟨b2, s2, g2⟩ := open_bytes (hval 2 46 v2 rfl rfl) h2
  obtain ⟨ao2, co2, rfl⟩ := src_form s2
  have e2 := bytes_reach hsz (j := 2) rfl rfl g2
  clear hA0
  simp only [List.append_nil] at hW'
  have hl : laidMet Tryd.prog Rows.docsetMemoryRow.laid W := hL
  have T := debr_of_mem hl (by simp [Rows.docsetMemoryRow])
  have hreads : ∀ g ∈ ([0, 1, 2, 3, 4, 5, 6, 7, 8, 9, 10, 11, 12, 13, 14, 16, 17, 18, 19, 20, 21, 22, 23, 24] : List Nat), ErrRead W g := by
    intro g hg
    simp only [List.mem_cons, List.not_mem_nil, or_false] at hg
    rcases hg with rfl | rfl | rfl | rfl | rfl | rfl | rfl | rfl | rfl | rfl | rfl | rfl | rfl | rfl | rfl | rfl | rfl | rfl | rfl | rfl | rfl | rfl | rfl | rfl
    · exact read0 hl (by simp [Rows.docsetMemoryRow])
    · exact read1 hl (by simp [Rows.docsetMemoryRow])
    · exact read2 hl (by simp [Rows.docsetMemoryRow])
    · exact read3 hl (by simp [Rows.docsetMemoryRow])
    · exact read4 hl (by simp [Rows.docsetMemoryRow])
    · exact read5 hl (by simp [Rows.docsetMemoryRow])
    · exact read6 hl (by simp [Rows.docsetMemoryRow])
    · exact read7 hl (by simp [Rows.docsetMemoryRow])
    · exact read8 hl (by simp [Rows.docsetMemoryRow])
    · exact read9 hl (by simp [Rows.docsetMemoryRow])
    · exact read10 hl (by simp [Rows.docsetMemoryRow])
    · exact read11 hl (by simp [Rows.docsetMemoryRow])
    · exact read12 hl (by simp [Rows.docsetMemoryRow])
    · exact read13 hl (by simp [Rows.docsetMemoryRow])
    · exact read14 hl (by simp [Rows.docsetMemoryRow])
    · exact read16 hl (by simp [Rows.docsetMemoryRow])
    · exact read17 hl (by simp [Rows.docsetMemoryRow])
    · exact read18 hl (by simp [Rows.docsetMemoryRow])
    · exact read19 hl (by simp [Rows.docsetMemoryRow])
    · exact read20 hl (by simp [Rows.docsetMemoryRow])
    · exact read21 hl (by simp [Rows.docsetMemoryRow])
    · exact read22 hl (by simp [Rows.docsetMemoryRow])
    · exact read23 hl (by simp [Rows.docsetMemoryRow])
    · exact read24 hl (by simp [Rows.docsetMemoryRow])
  obtain ⟨E, hE⟩ := errs_of_reads hreads (by decide +kernel)
  have hg2 := World.block_lt_of_cell? W _ (hE.cell 24 (by decide))
  simp only at hg2
  refine (memory_walk W T E hE (by omega) x0 ao1 co1 b1 s1 (by omega) ao2 co2 b2 s2 (by omega)).mono fun e W' ⟨he, hb⟩ => ?_
  subst he
  exact ⟨_, rfl, law_post hW' rfl rfl rfl (by kernel_rfl) hb⟩

noncomputable def laidWorld (os : Os) : World := World.doorLaid Tryd.prog 700 os
noncomputable def wargs : Array Value := #[.int .i64 0, .slice none 0 0, .slice none 0 0]
theorem laid_met (os : Os) : laidMetH Tryd.prog Rows.docsetMemoryRow.laid ((laidWorld os).forCall (fun _ _ => 0) ⟨#[], wargs, []⟩).memory :=
  laidMetH_of_parts3 (fuel := 8) (laidMet_of_run' 8 (by kernel_rfl) (by kernel_rfl)) (by kernel_rfl) (by kernel_rfl)
theorem reads (os : Os) {H : Type} (enc : TypeId × Value → H) : ∃ places, DataW.whole enc Tryd.prog ((laidWorld os).forCall (fun _ _ => 0) ⟨#[], wargs, []⟩).memory Tryd.f9.params.toList Rows.docsetMemorySpec.vars false wargs.toList 8 = some ([.lit (.int .i64 0), .nil, .nil], [], places) :=
  ⟨[], by kernel_rfl⟩

set_option maxRecDepth 100000 in
theorem lifted (os : Os) (started : os.Started) (H : Type) (enc : TypeId × Value → H) (F : Stop.Interp) :
    ReturnsInHanded {} Tryd.checked os 9 .any ((OpenSpec.ofChange Rows.docsetMemorySpec).preRow enc Tryd.prog Tryd.f9 Rows.docsetMemoryRow.domain false Rows.docsetMemoryRow.laid) (((OpenSpec.ofChange Rows.docsetMemorySpec).at F).post enc Tryd.prog Tryd.f9 false true false false) := by
  obtain ⟨places, hx⟩ := reads os enc
  refine returnsInHanded_of_row (C := Tryd.checked) (s := OpenSpec.ofChange Rows.docsetMemorySpec) own started (by kernel_rfl) Tryd.func9
    (witness_row_atRef (enc := enc) (C := Tryd.checked) false (laidWorld os) wargs rfl (by kernel_rfl) (by kernel_rfl) (by kernel_rfl)
      (OpenSpec.preRow_of_cond 8 hx (by kernel_rfl) (fun k hk => by cases hk) (by kernel_rfl) (laid_met os))) ?_
  intro W base args ds gs before hval hW _ _ hsz hL _ _
  exact contract H enc W base args ds gs before hval hW hL hsz

theorem fact0 : (Rows.docsetMemoryRow.wf (OpenSpec.ofChange (OpenSpec.ofChange Rows.docsetMemorySpec).bare)) = true := by kernel_rfl
theorem fact3 : (Tryd.f9.params.all (Tryd.prog.readableRec ·)) = true := by kernel_rfl
theorem fact4 : (namedTie Tryd.prog Rows.docsetMemoryRow.named (OpenSpec.ofChange Rows.docsetMemorySpec).bare.vars) = true := by kernel_rfl
theorem fact5 : ((Rows.docsetMemoryRow.stops == [])) = true := by kernel_rfl
theorem fact7 : ((Rows.docsetMemoryRow.knobs == [])) = true := by kernel_rfl
theorem fact9 : ((Rows.docsetMemoryRow.inPlace == Tryd.prog.inPlace 9)) = true := by kernel_rfl
theorem fact10 : ((Rows.docsetMemoryRow.unfollowed == Tryd.prog.unfollowed 9)) = true := by kernel_rfl
theorem fact11 : ((Rows.docsetMemoryRow.recurses == Tryd.prog.recurses 9)) = true := by kernel_rfl
theorem fact12 : ((Rows.docsetMemoryRow.named == Tryd.prog.varsNamed 9)) = true := by kernel_rfl
theorem fact13 : ((Rows.docsetMemoryRow.maps == (Tryd.f9.params.toList ++ (OpenSpec.ofChange Rows.docsetMemorySpec).bare.plain.varTypes Tryd.prog).any (Tryd.prog.mapsRec ·))) = true := by kernel_rfl
theorem fact14 : ((Rows.docsetMemoryRow.ifaces == (Tryd.f9.params.toList ++ (OpenSpec.ofChange Rows.docsetMemorySpec).bare.plain.varTypes Tryd.prog).any (Tryd.prog.ifacesRec ·))) = true := by kernel_rfl
theorem fact15 : ((Rows.docsetMemoryRow.mapsOut == Tryd.prog.mapsAmong Tryd.f9.resultTypes.toList)) = true := by kernel_rfl
theorem fact16 : ((Rows.docsetMemoryRow.loops == (Tryd.f9.params.toList ++ (OpenSpec.ofChange Rows.docsetMemorySpec).bare.plain.varTypes Tryd.prog).any (Tryd.prog.loopsFrom ·))) = true := by kernel_rfl
theorem fact17 : ((Rows.docsetMemoryRow.wideKeys == (Tryd.f9.params.toList ++ (OpenSpec.ofChange Rows.docsetMemorySpec).bare.plain.varTypes Tryd.prog ++ Tryd.f9.resultTypes.toList).any (Tryd.prog.wideKeysFrom ·))) = true := by kernel_rfl
theorem fact18 : ((OpenSpec.ofChange Rows.docsetMemorySpec).bare.vars.all (Tryd.prog.varReadable ·)) = true := by kernel_rfl
theorem fact19 : (Tryd.f9.resultTypes.all (fun t => Tryd.prog.readableRec t && decide (t < Tryd.prog.types.size))) = true := by kernel_rfl
theorem fact20 : ((Rows.docsetMemoryRow.ifacesOut == Tryd.f9.resultTypes.toList.any (Tryd.prog.ifacesRec ·))) = true := by kernel_rfl
theorem fact21 : ((Rows.docsetMemoryRow.loopsOut == Tryd.f9.resultTypes.toList.any (Tryd.prog.loopsFrom ·))) = true := by kernel_rfl
theorem fact22 : ((Rows.docsetMemoryRow.plainKeys == Tryd.prog.plainKeys)) = true := by rw [Tryd.keys]; kernel_rfl
theorem fact23 : (Rows.docsetMemoryRow.shortTexts.isNone) = true := by kernel_rfl
theorem fact26 : ((Rows.docsetMemoryRow.lifted == Tryd.prog.liftsFinal)) = true := by rw [Tryd.lifts]; kernel_rfl
theorem fact27 : ((Tryd.prog.make == some Rows.docsetMemoryRow.make)) = true := by rw [Tryd.makes]; kernel_rfl
theorem fact29 : ((Rows.docsetMemoryRow.pinned == Rows.docsetMemoryRow.pinnedBy)) = true := by kernel_rfl
theorem fact30 : ((Rows.docsetMemoryRow.veiled == (Tryd.f9.params.toList ++ (OpenSpec.ofChange Rows.docsetMemorySpec).bare.plain.varTypes Tryd.prog ++ Tryd.f9.resultTypes.toList).any (Tryd.prog.veiledRec ·))) = true := by kernel_rfl
theorem fact31 : (Rows.docsetMemoryRow.veiledFits Tryd.prog Tryd.f9.params.toList (Tryd.f9.params.toList ++ (OpenSpec.ofChange Rows.docsetMemorySpec).bare.plain.varTypes Tryd.prog ++ Tryd.f9.resultTypes.toList)) = true := by kernel_rfl
theorem closed : joinedFacts Tryd.prog 9 Tryd.f9 (OpenSpec.ofChange Rows.docsetMemorySpec).bare Rows.docsetMemoryRow = true :=
  facts_of fact0 Tryd.laidOut Tryd.rowed fact3 fact4 fact5 Tryd.noStops fact7 Tryd.noKnobs fact9 fact10 fact11 fact12 fact13 fact14 fact15 fact16 fact17 fact18 fact19 fact20 fact21 fact22 fact23 Tryd.heard Tryd.mayEnter fact26 fact27 (by kernel_rfl) fact29 fact30 fact31
theorem named : Tryd.prog.funcNamed Rows.docsetMemoryRow.func = some 9 := by kernel_rfl
theorem instanced : Tryd.f9.isInstance Tryd.prog Rows.docsetMemoryRow.origin Rows.docsetMemoryRow.targs := of_decide_eq_true (by kernel_rfl)
theorem wrapped : Tryd.f9.isWrapper Tryd.prog Rows.docsetMemoryRow.wrapper Rows.docsetMemoryRow.mainSum := by unfold Func.isWrapper; first | (rw [if_pos (by decide +kernel)]; kernel_rfl) | (rw [if_neg (by decide +kernel)]; exact ⟨rfl, rfl⟩)
theorem said : Rows.DocsetMemorySaid :=
  OpenClaim.holds_of_cond 9 Tryd.f9 rfl rfl rfl rfl rfl rfl rfl ⟨rfl, rfl, rfl, rfl, rfl⟩ rfl rfl rfl rfl rfl named Tryd.func9 closed
    instanced wrapped
    (fun os started H enc _ F => by rw [OpenClaim.pre_eq_preRow]; exact lifted os started H enc F)

theorem plain (f : FuncId) (fn : Func) (hf : Tryd.pinned.checked.prog.funcNamed "concord/concordlaw03.DocsetMemory" = some f) (hfn : Tryd.pinned.checked.prog.funcs[f]? = some fn) :
    true = Tryd.pinned.checked.prog.looks [] ∧ ∀ (j : Nat) t, fn.params[j]? = some t → Tryd.pinned.checked.prog.wantsStandIn t = false := by
  obtain rfl : f = 9 := Option.some.inj ((show Tryd.prog.funcNamed "concord/concordlaw03.DocsetMemory" = some 9 by kernel_rfl).symm.trans hf) |>.symm
  obtain rfl : fn = Tryd.f9 := (Option.some.inj (Tryd.func9.symm.trans hfn)).symm
  have hall : Tryd.f9.params.toList.all (fun t => !Tryd.pinned.checked.prog.wantsStandIn t) = true := by kernel_rfl
  refine ⟨by kernel_rfl, fun j t ht => ?_⟩
  have := List.all_eq_true.1 hall t (by simpa using Array.mem_of_getElem? ht)
  simpa using this

/-- THE CARD -/
theorem card : Rows.DocsetMemoryCardSaid :=
  Claim7.holds_tied_plain_at .later [] _ _ _ _ said (fun _ h => by cases h) (by kernel_rfl) (fun _ h => by cases h) docsetMemory_row_tie rfl ⟨rfl, rfl⟩ (by kernel_rfl) rfl plain (by kernel_rfl)
end Go.Proofs.YtmkbbekeimnajaaDoor.docsetMemory
