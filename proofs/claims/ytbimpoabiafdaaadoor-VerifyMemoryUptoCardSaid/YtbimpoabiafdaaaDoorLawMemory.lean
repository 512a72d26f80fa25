/- Proved: for every input of the bulk that the second form allows, VerifyMemory returns true, and nothing that lay in memory ahead of the call has changed. Conditions: the package variables that the row lists (the errors, isa.table) hold what their initialisers lay; the card ties that to the text. -/
import Derived.Test.YtbimpoabiafdaaaDoorWMemory
import Derived.Test.YtbimpoabiafdaaaDoorOpn
import Derived.Deep.DeepWitnessRowRef
namespace Go.Proofs.YtbimpoabiafdaaaDoor.verifyMemory
open Go Go.ChangeShapes Go.WideShapes Go.ChangeAt Go.RowKit Go.Proofs.YtbimpoabiafdaaaDoor Vf
set_option maxRecDepth 100000 in
theorem contract (H : Type) (enc : TypeId × Value → H) (W : World) (base : Nat) (args : Array Value) (ds gs : List (DataW H)) (before : List MemPlace)
    (hval : ∀ (j : Nat) t v, Tryd.f4.params[j]? = some t → args[j]? = some v → Value.okWide Tryd.prog W .any base t v)
    (hW : DataW.Whole enc Tryd.prog Tryd.f4.params.toList Rows.verifyMemorySpec.vars false W args.toList ds gs before) (hL : laidMetH Tryd.prog Rows.verifyMemoryRow.laid W)
    (hsz : (DataW.weightsEach Tryd.prog (Tryd.f4.params.toList ++ []) (ds ++ gs)).all (· ≤ reachBytes) = true) (hk : Rows.uptoSmall H (ds ++ gs) = true) :
    Calls Tryd.prog 4 args W fun e W' => ∃ v, e = .returned v ∧ Rows.verifyMemorySpec.post enc Tryd.prog Tryd.f4 false true false false W args v W' := by
  have hW' := hW
  obtain ⟨p, q, hA0, hV, rfl, hfz, hnd⟩ := hW
  have hA : DataW.TrodAll enc Tryd.prog W 0 (fun _ => true) true Tryd.f4.params.toList args.toList ds p := hA0
  rw [Tryd.params4] at hA hval hsz
  obtain ⟨v0, vs0, d0, ds0, p0, q0, hargs, rfl, rfl, h0, r0⟩ := trodAll_cons hA
  obtain ⟨v1, vs1, d1, ds1, p1, q1, rfl, rfl, rfl, h1, r1⟩ := trodAll_cons r0
  obtain ⟨rfl, rfl, rfl⟩ := trodAll_nil r1
  obtain rfl : args = #[v0, v1] := by cases args; simp_all
  obtain ⟨rfl, rfl⟩ := trodVars_none hV
  obtain ⟨va0, vc0, vn0, vd0, vb0, Q0, rfl, hp0, g0⟩ := open_prog (hval 0 27 v0 rfl rfl) h0
  obtain ⟨aa0, ca0, rfl⟩ := ints_form hp0.avgs
  obtain ⟨ac0, cc0, rfl⟩ := leafs_form hp0.cur
  obtain ⟨an0, cn0, rfl⟩ := nrs_form hp0.nears
  obtain ⟨ad0, cd0, rfl⟩ := ints_form hp0.drive
  obtain ⟨ab0, cb0, rfl⟩ := src_form hp0.code
  have e0 := small_prog hk (j := 0) rfl g0
  obtain ⟨va1, vc1, vn1, vd1, vb1, Q1, rfl, hp1, g1⟩ := open_prog (hval 1 27 v1 rfl rfl) h1
  obtain ⟨aa1, ca1, rfl⟩ := ints_form hp1.avgs
  obtain ⟨ac1, cc1, rfl⟩ := leafs_form hp1.cur
  obtain ⟨an1, cn1, rfl⟩ := nrs_form hp1.nears
  obtain ⟨ad1, cd1, rfl⟩ := ints_form hp1.drive
  obtain ⟨ab1, cb1, rfl⟩ := src_form hp1.code
  have e1 := small_prog hk (j := 1) rfl g1
  clear hA0
  simp only [List.append_nil] at hW'
  have hl : laidMet Tryd.prog Rows.verifyMemoryRow.laid W := hL
  have T := tab_of_mem hl (by simp [Rows.verifyMemoryRow])
  have hg3 := World.block_lt_of_cell? W _ (T 0 (by decide))
  simp only at hg3
  have hreads : ∀ g ∈ ([0, 1, 2, 3, 4, 5, 6, 7, 8, 9, 10, 11, 12, 13, 14, 15, 16, 17, 18, 19, 20, 21, 22, 23] : List Nat), ErrRead W g := by
    intro g hg
    simp only [List.mem_cons, List.not_mem_nil, or_false] at hg
    rcases hg with rfl | rfl | rfl | rfl | rfl | rfl | rfl | rfl | rfl | rfl | rfl | rfl | rfl | rfl | rfl | rfl | rfl | rfl | rfl | rfl | rfl | rfl | rfl | rfl
    · exact read0 hl (by simp [Rows.verifyMemoryRow])
    · exact read1 hl (by simp [Rows.verifyMemoryRow])
    · exact read2 hl (by simp [Rows.verifyMemoryRow])
    · exact read3 hl (by simp [Rows.verifyMemoryRow])
    · exact read4 hl (by simp [Rows.verifyMemoryRow])
    · exact read5 hl (by simp [Rows.verifyMemoryRow])
    · exact read6 hl (by simp [Rows.verifyMemoryRow])
    · exact read7 hl (by simp [Rows.verifyMemoryRow])
    · exact read8 hl (by simp [Rows.verifyMemoryRow])
    · exact read9 hl (by simp [Rows.verifyMemoryRow])
    · exact read10 hl (by simp [Rows.verifyMemoryRow])
    · exact read11 hl (by simp [Rows.verifyMemoryRow])
    · exact read12 hl (by simp [Rows.verifyMemoryRow])
    · exact read13 hl (by simp [Rows.verifyMemoryRow])
    · exact read14 hl (by simp [Rows.verifyMemoryRow])
    · exact read15 hl (by simp [Rows.verifyMemoryRow])
    · exact read16 hl (by simp [Rows.verifyMemoryRow])
    · exact read17 hl (by simp [Rows.verifyMemoryRow])
    · exact read18 hl (by simp [Rows.verifyMemoryRow])
    · exact read19 hl (by simp [Rows.verifyMemoryRow])
    · exact read20 hl (by simp [Rows.verifyMemoryRow])
    · exact read21 hl (by simp [Rows.verifyMemoryRow])
    · exact read22 hl (by simp [Rows.verifyMemoryRow])
    · exact read23 hl (by simp [Rows.verifyMemoryRow])
  obtain ⟨E, hE⟩ := errs_of_reads hreads (by decide +kernel)
  have hg2 := World.block_lt_of_cell? W _ (hE.cell 23 (by decide))
  simp only at hg2
  refine (memory_walk W T E hE (by omega) _ _ _ _ _ _ _ _ _ _ _ Q0 rfl hp0 (e0.mono (by omega)) _ _ _ _ _ _ _ _ _ _ _ Q1 rfl hp1 (e1.mono (by omega))).mono fun e W' ⟨he, hb⟩ => ?_
  subst he
  exact ⟨_, rfl, law_post hW' rfl rfl rfl (by kernel_rfl) hb⟩

noncomputable def laidWorld (os : Os) : World := World.doorLaid Tryd.prog 700 os
noncomputable def wargs : Array Value := #[.agg #[.slice none 0 0, .slice none 0 0, .slice none 0 0, .bool false, .slice none 0 0, .slice none 0 0], .agg #[.slice none 0 0, .slice none 0 0, .slice none 0 0, .bool false, .slice none 0 0, .slice none 0 0]]
theorem laid_met (os : Os) : laidMetH Tryd.prog Rows.verifyMemoryRow.laid ((laidWorld os).forCall (fun _ _ => 0) ⟨#[], wargs, []⟩).memory :=
  laidMetH_of_parts3 (fuel := 8) (laidMet_of_run' 8 (by kernel_rfl) (by kernel_rfl)) (by kernel_rfl) (by kernel_rfl)
theorem reads (os : Os) {H : Type} (enc : TypeId × Value → H) : ∃ places, DataW.whole enc Tryd.prog ((laidWorld os).forCall (fun _ _ => 0) ⟨#[], wargs, []⟩).memory Tryd.f4.params.toList Rows.verifyMemorySpec.vars false wargs.toList 8 = some ([.agg [.nil, .nil, .nil, .lit (.bool false), .nil, .nil], .agg [.nil, .nil, .nil, .lit (.bool false), .nil, .nil]], [], places) :=
  ⟨[], by kernel_rfl⟩

set_option maxRecDepth 100000 in
theorem lifted (os : Os) (started : os.Started) (H : Type) (enc : TypeId × Value → H) (F : Stop.Interp) :
    ReturnsInHanded {} Tryd.checked os 4 .any ((Rows.OpenSpec.upto Rows.verifyMemorySpec).preRow enc Tryd.prog Tryd.f4 Rows.verifyMemoryUptoRow.domain false Rows.verifyMemoryUptoRow.laid) (((Rows.OpenSpec.upto Rows.verifyMemorySpec).at F).post enc Tryd.prog Tryd.f4 false true false false) := by
  obtain ⟨places, hx⟩ := reads os enc
  refine returnsInHanded_of_row (C := Tryd.checked) (s := Rows.OpenSpec.upto Rows.verifyMemorySpec) own started (by kernel_rfl) Tryd.func4
    (witness_row_atRef (enc := enc) (C := Tryd.checked) false (laidWorld os) wargs rfl (by kernel_rfl) (by kernel_rfl) (by kernel_rfl)
      (OpenSpec.preRow_of_cond 8 hx (by kernel_rfl) (fun k hk => by cases hk; kernel_rfl) (by kernel_rfl) (laid_met os))) ?_
  intro W base args ds gs before hval hW _ hcond hsz hL _ _
  exact contract H enc W base args ds gs before hval hW hL hsz (hcond _ rfl)

theorem fact0 : (Rows.verifyMemoryUptoRow.wf (OpenSpec.ofChange (Rows.OpenSpec.upto Rows.verifyMemorySpec).bare)) = true := by kernel_rfl
theorem fact3 : (Tryd.f4.params.all (Tryd.prog.readableRec ·)) = true := by kernel_rfl
theorem fact4 : (namedTie Tryd.prog Rows.verifyMemoryUptoRow.named (Rows.OpenSpec.upto Rows.verifyMemorySpec).bare.vars) = true := by kernel_rfl
theorem fact5 : ((Rows.verifyMemoryUptoRow.stops == [])) = true := by kernel_rfl
theorem fact7 : ((Rows.verifyMemoryUptoRow.knobs == [])) = true := by kernel_rfl
theorem fact9 : ((Rows.verifyMemoryUptoRow.inPlace == Tryd.prog.inPlace 4)) = true := by kernel_rfl
theorem fact10 : ((Rows.verifyMemoryUptoRow.unfollowed == Tryd.prog.unfollowed 4)) = true := by kernel_rfl
theorem fact11 : ((Rows.verifyMemoryUptoRow.recurses == Tryd.prog.recurses 4)) = true := by kernel_rfl
theorem fact12 : ((Rows.verifyMemoryUptoRow.named == Tryd.prog.varsNamed 4)) = true := by kernel_rfl
theorem fact13 : ((Rows.verifyMemoryUptoRow.maps == (Tryd.f4.params.toList ++ (Rows.OpenSpec.upto Rows.verifyMemorySpec).bare.plain.varTypes Tryd.prog).any (Tryd.prog.mapsRec ·))) = true := by kernel_rfl
theorem fact14 : ((Rows.verifyMemoryUptoRow.ifaces == (Tryd.f4.params.toList ++ (Rows.OpenSpec.upto Rows.verifyMemorySpec).bare.plain.varTypes Tryd.prog).any (Tryd.prog.ifacesRec ·))) = true := by kernel_rfl
theorem fact15 : ((Rows.verifyMemoryUptoRow.mapsOut == Tryd.prog.mapsAmong Tryd.f4.resultTypes.toList)) = true := by kernel_rfl
theorem fact16 : ((Rows.verifyMemoryUptoRow.loops == (Tryd.f4.params.toList ++ (Rows.OpenSpec.upto Rows.verifyMemorySpec).bare.plain.varTypes Tryd.prog).any (Tryd.prog.loopsFrom ·))) = true := by kernel_rfl
theorem fact17 : ((Rows.verifyMemoryUptoRow.wideKeys == (Tryd.f4.params.toList ++ (Rows.OpenSpec.upto Rows.verifyMemorySpec).bare.plain.varTypes Tryd.prog ++ Tryd.f4.resultTypes.toList).any (Tryd.prog.wideKeysFrom ·))) = true := by kernel_rfl
theorem fact18 : ((Rows.OpenSpec.upto Rows.verifyMemorySpec).bare.vars.all (Tryd.prog.varReadable ·)) = true := by kernel_rfl
theorem fact19 : (Tryd.f4.resultTypes.all (fun t => Tryd.prog.readableRec t && decide (t < Tryd.prog.types.size))) = true := by kernel_rfl
theorem fact20 : ((Rows.verifyMemoryUptoRow.ifacesOut == Tryd.f4.resultTypes.toList.any (Tryd.prog.ifacesRec ·))) = true := by kernel_rfl
theorem fact21 : ((Rows.verifyMemoryUptoRow.loopsOut == Tryd.f4.resultTypes.toList.any (Tryd.prog.loopsFrom ·))) = true := by kernel_rfl
theorem fact22 : ((Rows.verifyMemoryUptoRow.plainKeys == Tryd.prog.plainKeys)) = true := by rw [Tryd.keys]; kernel_rfl
theorem fact23 : (Rows.verifyMemoryUptoRow.shortTexts.isNone) = true := by kernel_rfl
theorem fact26 : ((Rows.verifyMemoryUptoRow.lifted == Tryd.prog.liftsFinal)) = true := by rw [Tryd.lifts]; kernel_rfl
theorem fact27 : ((Tryd.prog.make == some Rows.verifyMemoryUptoRow.make)) = true := by rw [Tryd.makes]; kernel_rfl
theorem fact29 : ((Rows.verifyMemoryUptoRow.pinned == Rows.verifyMemoryUptoRow.pinnedBy)) = true := by kernel_rfl
theorem fact30 : ((Rows.verifyMemoryUptoRow.veiled == (Tryd.f4.params.toList ++ (Rows.OpenSpec.upto Rows.verifyMemorySpec).bare.plain.varTypes Tryd.prog ++ Tryd.f4.resultTypes.toList).any (Tryd.prog.veiledRec ·))) = true := by kernel_rfl
theorem fact31 : (Rows.verifyMemoryUptoRow.veiledFits Tryd.prog Tryd.f4.params.toList (Tryd.f4.params.toList ++ (Rows.OpenSpec.upto Rows.verifyMemorySpec).bare.plain.varTypes Tryd.prog ++ Tryd.f4.resultTypes.toList)) = true := by kernel_rfl
theorem closed : joinedFacts Tryd.prog 4 Tryd.f4 (Rows.OpenSpec.upto Rows.verifyMemorySpec).bare Rows.verifyMemoryUptoRow = true :=
  facts_of fact0 Tryd.laidOut Tryd.rowed fact3 fact4 fact5 Tryd.noStops fact7 Tryd.noKnobs fact9 fact10 fact11 fact12 fact13 fact14 fact15 fact16 fact17 fact18 fact19 fact20 fact21 fact22 fact23 Tryd.heard Tryd.mayEnter fact26 fact27 (by kernel_rfl) fact29 fact30 fact31
theorem named : Tryd.prog.funcNamed Rows.verifyMemoryUptoRow.func = some 4 := by kernel_rfl
theorem instanced : Tryd.f4.isInstance Tryd.prog Rows.verifyMemoryUptoRow.origin Rows.verifyMemoryUptoRow.targs := of_decide_eq_true (by kernel_rfl)
theorem wrapped : Tryd.f4.isWrapper Tryd.prog Rows.verifyMemoryUptoRow.wrapper Rows.verifyMemoryUptoRow.mainSum := by unfold Func.isWrapper; first | (rw [if_pos (by decide +kernel)]; kernel_rfl) | (rw [if_neg (by decide +kernel)]; exact ⟨rfl, rfl⟩)
theorem said : Rows.VerifyMemoryUptoSaid :=
  OpenClaim.holds_of_cond 4 Tryd.f4 rfl rfl rfl rfl rfl rfl rfl ⟨rfl, rfl, rfl, rfl, rfl⟩ rfl rfl rfl rfl rfl named Tryd.func4 closed
    instanced wrapped
    (fun os started H enc _ F => by rw [OpenClaim.pre_eq_preRow]; exact lifted os started H enc F)

theorem plain (f : FuncId) (fn : Func) (hf : Tryd.pinned.checked.prog.funcNamed "concord/concordlaw21.VerifyMemory" = some f) (hfn : Tryd.pinned.checked.prog.funcs[f]? = some fn) :
    true = Tryd.pinned.checked.prog.looks [] ∧ ∀ (j : Nat) t, fn.params[j]? = some t → Tryd.pinned.checked.prog.wantsStandIn t = false := by
  obtain rfl : f = 4 := Option.some.inj ((show Tryd.prog.funcNamed "concord/concordlaw21.VerifyMemory" = some 4 by kernel_rfl).symm.trans hf) |>.symm
  obtain rfl : fn = Tryd.f4 := (Option.some.inj (Tryd.func4.symm.trans hfn)).symm
  have hall : Tryd.f4.params.toList.all (fun t => !Tryd.pinned.checked.prog.wantsStandIn t) = true := by kernel_rfl
  refine ⟨by kernel_rfl, fun j t ht => ?_⟩
  have := List.all_eq_true.1 hall t (by simpa using Array.mem_of_getElem? ht)
  simpa using this

/-- THE CARD -/
theorem card : Rows.VerifyMemoryUptoCardSaid :=
  Claim7.holds_tied_plain_at .later [] _ _ _ _ said (fun _ h => by cases h) (by kernel_rfl) (fun _ h => by cases h) verifyMemoryUpto_row_tie rfl ⟨rfl, rfl⟩ (by kernel_rfl) rfl plain (by kernel_rfl)
end Go.Proofs.YtbimpoabiafdaaaDoor.verifyMemory
