/- Proved: for every input, DocsetCanon returns true (the form hangs on the members alone, however they came and went; at most 33 bytes a block), and nothing that lay in memory ahead of the call has changed. Conditions: the package variables that the row lists (the errors, the table of math/bits) hold what their initialisers lay; the card ties that to the text. -/
import Derived.Test.YtmkbbekeimnajaaDoorMCanon0
import Derived.Test.YtmkbbekeimnajaaDoorMCanon1
import Derived.Test.YtmkbbekeimnajaaDoorMCanon2
import Derived.Test.YtmkbbekeimnajaaDoorMCanon3
import Derived.Test.YtmkbbekeimnajaaDoorMCanon4
import Derived.Test.YtmkbbekeimnajaaDoorMCanon5
import Derived.Test.YtmkbbekeimnajaaDoorMCanon6
import Derived.Test.YtmkbbekeimnajaaDoorMCanon7
import Derived.Test.YtmkbbekeimnajaaDoorMCanon8
import Derived.Test.YtmkbbekeimnajaaDoorMCanon9
import Derived.Deep.DeepWitnessRowRef
namespace Go.Proofs.YtmkbbekeimnajaaDoor.docsetCanon
open Go Go.ChangeShapes Go.WideShapes Go.ChangeAt Go.RowKit Go.Proofs.YtmkbbekeimnajaaDoor Ds
set_option maxRecDepth 100000 in
theorem contract (H : Type) (enc : TypeId × Value → H) (W : World) (base : Nat) (args : Array Value) (ds gs : List (DataW H)) (before : List MemPlace)
    (hval : ∀ (j : Nat) t v, Tryd.f8.params[j]? = some t → args[j]? = some v → Value.okWide Tryd.prog W .any base t v)
    (hW : DataW.Whole enc Tryd.prog Tryd.f8.params.toList Rows.docsetCanonSpec.vars false W args.toList ds gs before) (hL : laidMetH Tryd.prog Rows.docsetCanonRow.laid W)
    (hsz : (DataW.weightsEach Tryd.prog (Tryd.f8.params.toList ++ []) (ds ++ gs)).all (· ≤ reachBytes) = true) :
    Calls Tryd.prog 8 args W fun e W' => ∃ v, e = .returned v ∧ Rows.docsetCanonSpec.post enc Tryd.prog Tryd.f8 false true false false W args v W' := by
  have hW' := hW
  obtain ⟨p, q, hA0, hV, rfl, hfz, hnd⟩ := hW
  have hA : DataW.TrodAll enc Tryd.prog W 0 (fun _ => true) true Tryd.f8.params.toList args.toList ds p := hA0
  rw [Tryd.params8] at hA hval hsz
  obtain ⟨v0, vs0, d0, ds0, p0, q0, hargs, rfl, rfl, h0, r0⟩ := trodAll_cons hA
  obtain ⟨v1, vs1, d1, ds1, p1, q1, rfl, rfl, rfl, h1, r1⟩ := trodAll_cons r0
  obtain ⟨v2, vs2, d2, ds2, p2, q2, rfl, rfl, rfl, h2, r2⟩ := trodAll_cons r1
  obtain ⟨rfl, rfl, rfl⟩ := trodAll_nil r2
  obtain rfl : args = #[v0, v1, v2] := by cases args; simp_all
  obtain ⟨rfl, rfl⟩ := trodVars_none hV
  obtain ⟨x0, rfl, rfl, rfl, w0⟩ := open_int Tryd.underlying3 (hval 0 3 v0 rfl rfl) h0
  obtain ⟨l0, u0⟩ := bounds_i64 w0
  obtain ⟨b1, s1, g1⟩ := open_nums (hval 1 22 v1 rfl rfl) h1
  obtain ⟨ao1, co1, rfl⟩ := ints_form s1
  have e1 := nums_reach hsz (j := 1) rfl rfl g1
  obtain ⟨b2, s2, g2⟩ := open_nums (hval 2 22 v2 rfl rfl) h2
  obtain ⟨ao2, co2, rfl⟩ := ints_form s2
  have e2 := nums_reach hsz (j := 2) rfl rfl g2
  clear hA0
  simp only [List.append_nil] at hW'
  have hl : laidMet Tryd.prog Rows.docsetCanonRow.laid W := hL
  have T := debr_of_mem hl (by simp [Rows.docsetCanonRow])
  have hreads : ∀ g ∈ ([0, 1, 2, 3, 4, 5, 6, 7, 8, 9, 10, 11, 12, 13, 14, 16, 17, 18, 19, 20, 21, 22, 23, 24] : List Nat), ErrRead W g := by
    intro g hg
    simp only [List.mem_cons, List.not_mem_nil, or_false] at hg
    rcases hg with rfl | rfl | rfl | rfl | rfl | rfl | rfl | rfl | rfl | rfl | rfl | rfl | rfl | rfl | rfl | rfl | rfl | rfl | rfl | rfl | rfl | rfl | rfl | rfl
    · exact read0 hl (by simp [Rows.docsetCanonRow])
    · exact read1 hl (by simp [Rows.docsetCanonRow])
    · exact read2 hl (by simp [Rows.docsetCanonRow])
    · exact read3 hl (by simp [Rows.docsetCanonRow])
    · exact read4 hl (by simp [Rows.docsetCanonRow])
    · exact read5 hl (by simp [Rows.docsetCanonRow])
    · exact read6 hl (by simp [Rows.docsetCanonRow])
    · exact read7 hl (by simp [Rows.docsetCanonRow])
    · exact read8 hl (by simp [Rows.docsetCanonRow])
    · exact read9 hl (by simp [Rows.docsetCanonRow])
    · exact read10 hl (by simp [Rows.docsetCanonRow])
    · exact read11 hl (by simp [Rows.docsetCanonRow])
    · exact read12 hl (by simp [Rows.docsetCanonRow])
    · exact read13 hl (by simp [Rows.docsetCanonRow])
    · exact read14 hl (by simp [Rows.docsetCanonRow])
    · exact read16 hl (by simp [Rows.docsetCanonRow])
    · exact read17 hl (by simp [Rows.docsetCanonRow])
    · exact read18 hl (by simp [Rows.docsetCanonRow])
    · exact read19 hl (by simp [Rows.docsetCanonRow])
    · exact read20 hl (by simp [Rows.docsetCanonRow])
    · exact read21 hl (by simp [Rows.docsetCanonRow])
    · exact read22 hl (by simp [Rows.docsetCanonRow])
    · exact read23 hl (by simp [Rows.docsetCanonRow])
    · exact read24 hl (by simp [Rows.docsetCanonRow])
  obtain ⟨E, hE⟩ := errs_of_reads hreads (by decide +kernel)
  have hg2 := World.block_lt_of_cell? W _ (hE.cell 24 (by decide))
  simp only at hg2
  refine (canon_walk W T E hE (by omega) x0 ao1 co1 b1 s1 (by omega) ao2 co2 b2 s2 (by omega)).mono fun e W' ⟨he, hb⟩ => ?_
  subst he
  exact ⟨_, rfl, law_post hW' rfl rfl rfl (by kernel_rfl) hb⟩

noncomputable def laidWorld (os : Os) : World := World.doorLaid Tryd.prog 700 os
noncomputable def wargs : Array Value := #[.int .i64 0, .slice none 0 0, .slice none 0 0]
theorem laid_met (os : Os) : laidMetH Tryd.prog Rows.docsetCanonRow.laid ((laidWorld os).forCall (fun _ _ => 0) ⟨#[], wargs, []⟩).memory :=
  laidMetH_of_parts3 (fuel := 8) (laidMet_of_run' 8 (by kernel_rfl) (by kernel_rfl)) (by kernel_rfl) (by kernel_rfl)
theorem reads (os : Os) {H : Type} (enc : TypeId × Value → H) : ∃ places, DataW.whole enc Tryd.prog ((laidWorld os).forCall (fun _ _ => 0) ⟨#[], wargs, []⟩).memory Tryd.f8.params.toList Rows.docsetCanonSpec.vars false wargs.toList 8 = some ([.lit (.int .i64 0), .nil, .nil], [], places) :=
  ⟨[], by kernel_rfl⟩

set_option maxRecDepth 100000 in
theorem lifted (os : Os) (started : os.Started) (H : Type) (enc : TypeId × Value → H) (F : Stop.Interp) :
    ReturnsInHanded {} Tryd.checked os 8 .any ((OpenSpec.ofChange Rows.docsetCanonSpec).preRow enc Tryd.prog Tryd.f8 Rows.docsetCanonRow.domain false Rows.docsetCanonRow.laid) (((OpenSpec.ofChange Rows.docsetCanonSpec).at F).post enc Tryd.prog Tryd.f8 false true false false) := by
  obtain ⟨places, hx⟩ := reads os enc
  refine returnsInHanded_of_row (C := Tryd.checked) (s := OpenSpec.ofChange Rows.docsetCanonSpec) own started (by kernel_rfl) Tryd.func8
    (witness_row_atRef (enc := enc) (C := Tryd.checked) false (laidWorld os) wargs rfl (by kernel_rfl) (by kernel_rfl) (by kernel_rfl)
      (OpenSpec.preRow_of_cond 8 hx (by kernel_rfl) (fun k hk => by cases hk) (by kernel_rfl) (laid_met os))) ?_
  intro W base args ds gs before hval hW _ _ hsz hL _ _
  exact contract H enc W base args ds gs before hval hW hL hsz

theorem fact0 : (Rows.docsetCanonRow.wf (OpenSpec.ofChange (OpenSpec.ofChange Rows.docsetCanonSpec).bare)) = true := by kernel_rfl
theorem fact3 : (Tryd.f8.params.all (Tryd.prog.readableRec ·)) = true := by kernel_rfl
theorem fact4 : (namedTie Tryd.prog Rows.docsetCanonRow.named (OpenSpec.ofChange Rows.docsetCanonSpec).bare.vars) = true := by kernel_rfl
theorem fact5 : ((Rows.docsetCanonRow.stops == [])) = true := by kernel_rfl
theorem fact7 : ((Rows.docsetCanonRow.knobs == [])) = true := by kernel_rfl
theorem fact9 : ((Rows.docsetCanonRow.inPlace == Tryd.prog.inPlace 8)) = true := by kernel_rfl
theorem fact10 : ((Rows.docsetCanonRow.unfollowed == Tryd.prog.unfollowed 8)) = true := by kernel_rfl
theorem fact11 : ((Rows.docsetCanonRow.recurses == Tryd.prog.recurses 8)) = true := by kernel_rfl
theorem fact12 : ((Rows.docsetCanonRow.named == Tryd.prog.varsNamed 8)) = true := by kernel_rfl
theorem fact13 : ((Rows.docsetCanonRow.maps == (Tryd.f8.params.toList ++ (OpenSpec.ofChange Rows.docsetCanonSpec).bare.plain.varTypes Tryd.prog).any (Tryd.prog.mapsRec ·))) = true := by kernel_rfl
theorem fact14 : ((Rows.docsetCanonRow.ifaces == (Tryd.f8.params.toList ++ (OpenSpec.ofChange Rows.docsetCanonSpec).bare.plain.varTypes Tryd.prog).any (Tryd.prog.ifacesRec ·))) = true := by kernel_rfl
theorem fact15 : ((Rows.docsetCanonRow.mapsOut == Tryd.prog.mapsAmong Tryd.f8.resultTypes.toList)) = true := by kernel_rfl
theorem fact16 : ((Rows.docsetCanonRow.loops == (Tryd.f8.params.toList ++ (OpenSpec.ofChange Rows.docsetCanonSpec).bare.plain.varTypes Tryd.prog).any (Tryd.prog.loopsFrom ·))) = true := by kernel_rfl
theorem fact17 : ((Rows.docsetCanonRow.wideKeys == (Tryd.f8.params.toList ++ (OpenSpec.ofChange Rows.docsetCanonSpec).bare.plain.varTypes Tryd.prog ++ Tryd.f8.resultTypes.toList).any (Tryd.prog.wideKeysFrom ·))) = true := by kernel_rfl
theorem fact18 : ((OpenSpec.ofChange Rows.docsetCanonSpec).bare.vars.all (Tryd.prog.varReadable ·)) = true := by kernel_rfl
theorem fact19 : (Tryd.f8.resultTypes.all (fun t => Tryd.prog.readableRec t && decide (t < Tryd.prog.types.size))) = true := by kernel_rfl
theorem fact20 : ((Rows.docsetCanonRow.ifacesOut == Tryd.f8.resultTypes.toList.any (Tryd.prog.ifacesRec ·))) = true := by kernel_rfl
theorem fact21 : ((Rows.docsetCanonRow.loopsOut == Tryd.f8.resultTypes.toList.any (Tryd.prog.loopsFrom ·))) = true := by kernel_rfl
theorem fact22 : ((Rows.docsetCanonRow.plainKeys == Tryd.prog.plainKeys)) = true := by rw [Tryd.keys]; kernel_rfl
theorem fact23 : (Rows.docsetCanonRow.shortTexts.isNone) = true := by kernel_rfl
theorem fact26 : ((Rows.docsetCanonRow.lifted == Tryd.prog.liftsFinal)) = true := by rw [Tryd.lifts]; kernel_rfl
theorem fact27 : ((Tryd.prog.make == some Rows.docsetCanonRow.make)) = true := by rw [Tryd.makes]; kernel_rfl
theorem fact29 : ((Rows.docsetCanonRow.pinned == Rows.docsetCanonRow.pinnedBy)) = true := by kernel_rfl
theorem fact30 : ((Rows.docsetCanonRow.veiled == (Tryd.f8.params.toList ++ (OpenSpec.ofChange Rows.docsetCanonSpec).bare.plain.varTypes Tryd.prog ++ Tryd.f8.resultTypes.toList).any (Tryd.prog.veiledRec ·))) = true := by kernel_rfl
theorem fact31 : (Rows.docsetCanonRow.veiledFits Tryd.prog Tryd.f8.params.toList (Tryd.f8.params.toList ++ (OpenSpec.ofChange Rows.docsetCanonSpec).bare.plain.varTypes Tryd.prog ++ Tryd.f8.resultTypes.toList)) = true := by kernel_rfl
theorem closed : joinedFacts Tryd.prog 8 Tryd.f8 (OpenSpec.ofChange Rows.docsetCanonSpec).bare Rows.docsetCanonRow = true :=
  facts_of fact0 Tryd.laidOut Tryd.rowed fact3 fact4 fact5 Tryd.noStops fact7 Tryd.noKnobs fact9 fact10 fact11 fact12 fact13 fact14 fact15 fact16 fact17 fact18 fact19 fact20 fact21 fact22 fact23 Tryd.heard Tryd.mayEnter fact26 fact27 (by kernel_rfl) fact29 fact30 fact31
theorem named : Tryd.prog.funcNamed Rows.docsetCanonRow.func = some 8 := by kernel_rfl
theorem instanced : Tryd.f8.isInstance Tryd.prog Rows.docsetCanonRow.origin Rows.docsetCanonRow.targs := of_decide_eq_true (by kernel_rfl)
theorem wrapped : Tryd.f8.isWrapper Tryd.prog Rows.docsetCanonRow.wrapper Rows.docsetCanonRow.mainSum := by unfold Func.isWrapper; first | (rw [if_pos (by decide +kernel)]; kernel_rfl) | (rw [if_neg (by decide +kernel)]; exact ⟨rfl, rfl⟩)
theorem said : Rows.DocsetCanonSaid :=
  OpenClaim.holds_of_cond 8 Tryd.f8 rfl rfl rfl rfl rfl rfl rfl ⟨rfl, rfl, rfl, rfl, rfl⟩ rfl rfl rfl rfl rfl named Tryd.func8 closed
    instanced wrapped
    (fun os started H enc _ F => by rw [OpenClaim.pre_eq_preRow]; exact lifted os started H enc F)

theorem plain (f : FuncId) (fn : Func) (hf : Tryd.pinned.checked.prog.funcNamed "concord/concordlaw03.DocsetCanon" = some f) (hfn : Tryd.pinned.checked.prog.funcs[f]? = some fn) :
    true = Tryd.pinned.checked.prog.looks [] ∧ ∀ (j : Nat) t, fn.params[j]? = some t → Tryd.pinned.checked.prog.wantsStandIn t = false := by
  obtain rfl : f = 8 := Option.some.inj ((show Tryd.prog.funcNamed "concord/concordlaw03.DocsetCanon" = some 8 by kernel_rfl).symm.trans hf) |>.symm
  obtain rfl : fn = Tryd.f8 := (Option.some.inj (Tryd.func8.symm.trans hfn)).symm
  have hall : Tryd.f8.params.toList.all (fun t => !Tryd.pinned.checked.prog.wantsStandIn t) = true := by kernel_rfl
  refine ⟨by kernel_rfl, fun j t ht => ?_⟩
  have := List.all_eq_true.1 hall t (by simpa using Array.mem_of_getElem? ht)
  simpa using this

/-- THE CARD -/
theorem card : Rows.DocsetCanonCardSaid :=
  Claim7.holds_tied_plain_at .later [] _ _ _ _ said (fun _ h => by cases h) (by kernel_rfl) (fun _ h => by cases h) docsetCanon_row_tie rfl ⟨rfl, rfl⟩ (by kernel_rfl) rfl plain (by kernel_rfl)
end Go.Proofs.YtmkbbekeimnajaaDoor.docsetCanon
