/- Proved: for every body and every sum, FrameSums returns true (frame.Seal, frame.Sum and frame.Extend are the reference's, bit by bit; the seal of "123456789" is 0xE3069283; Extend by nothing is the identity), and nothing that lay in memory ahead of the call has changed. Conditions: the package variables that the row lists (ErrTag, frame.zipTable, frame.sealTable) hold what their initialisers lay; the card ties that to the text. -/
import Derived.Test.YtgebekklkodpaaaDoorLives
import Derived.Test.YtgebekklkodpaaaDoorStr
import Derived.Test.YtgebekklkodpaaaDoorOpen
import Derived.Test.YtgebekklkodpaaaDoorTies
import Derived.Deep.DeepWitnessRowRef
namespace Go.Proofs.YtgebekklkodpaaaDoor.frameSums
open Go.ChangeShapes Go.WideShapes Go.ChangeAt Go.RowKit Go.Proofs.YtgebekklkodpaaaDoor

theorem seal_nines : seal_ nines = 3808858755 := by decide +kernel
theorem seal_below {w w' : World} (Z : SealT w) (hg : 16 < w.heap.size) (h : Below w.heap.size w w') : SealT w' := fun k hk => (h.cell (p := ⟨15, k, none⟩) (by simp only; omega)).trans (Z k hk)
theorem seal_9 (w : World) (Z : SealT w) (b : Nat) (m : Nat × Nat) (hh : w.heap[b]? = some (.cells #[.int .u8 49, .int .u8 50, .int .u8 51, .int .u8 52, .int .u8 53, .int .u8 54, .int .u8 55, .int .u8 56, .int .u8 57] 5 m)) :
    Calls Tryd.prog 27 #[.slice (some ⟨b, 0, none⟩) 9 9] w fun e w' => e = .returned (.int .u32 3808858755) ∧ w = w' := by
  have h : Calls Tryd.prog 27 #[.slice (some ⟨b, 0, none⟩) 9 9] w _ := seal_any w Z _ nines (src_block (bs := nines) hh (by decide) (by decide)) (by decide)
  rw [seal_nines] at h
  exact h
theorem xor_back (m s : Nat) : m ^^^ (m ^^^ s) = s := by rw [← Nat.xor_assoc, Nat.xor_self, Nat.zero_xor]
theorem flip_flip (s : Nat) : flip (flip s) = s := by
  obtain ⟨m, hm⟩ : ∃ m, ∀ t, flip t = m ^^^ t := ⟨_, fun _ => rfl⟩
  rw [hm, hm]
  exact xor_back m s
theorem ext_nil (s : Nat) : ext s [] = s := flip_flip s
theorem extend_nil (w : World) (Z : Zip w) (s : Nat) (hs : s < 4294967296) :
    Calls Tryd.prog 31 #[.int .u32 s, .slice none 0 0] w fun e w' => e = .returned (.int .u32 s) ∧ w = w' := by
  have h := extend_any w Z s hs (.slice none 0 0) [] ⟨by simp, .inl ⟨rfl, rfl⟩⟩ (by simp)
  rw [ext_nil s] at h
  exact h

set_option maxRecDepth 100000 in
set_option maxHeartbeats 1000000 in
theorem walk (w : World) (Z : Zip w) (S : SealT w) (hg : 16 < w.heap.size) (s : Nat) (hs : s < 4294967296) (v : Value) (body : List Nat) (hv : Src w v body) (hl : body.length ≤ 140737488355200) :
    Calls Tryd.prog 5 #[v, .int .u32 s] w fun e w' => e = .returned (.bool true) ∧ Below w.heap.size w w' := by
  obtain ⟨ao, cap, hve, _⟩ := src_bytes hv
  have HZ := hide Z
  have HS := hide S
  have HV := hide hv
  have HL := hide (show body.length ≤ 9223372036854775807 by omega)
  have HT := hide hs
  subst hve
  clear Z S hv hl hs
  have kc := fun (w : World) (C : Array Value) (n c : Nat) => Lib.run_convert_bytes_const (P := Tryd.prog) w 25 5 C n c Tryd.underlying25 Tryd.underlying5
  go_enter Tryd.func5, Tryd.ntmps5
  go_wp2_with fail
  refine (lives_any w HZ.out (by omega)).mono ?_
  rintro e w1 ⟨rfl, hb1⟩
  have HB1 := hide hb1
  have hs1 := hb1.size
  clear hb1
  go_wp2_with fail
  refine (seal_9 (w1.alloc (.cells #[.int .u8 49, .int .u8 50, .int .u8 51, .int .u8 52, .int .u8 53, .int .u8 54, .int .u8 55, .int .u8 56, .int .u8 57] 5 (9, 10))) (seal_below HS.out hg (HB1.out.alloc hs1 _)) _ _ (heap_new rfl _)).mono ?_
  rintro e w' ⟨rfl, rfl⟩
  have HB2 := hide (HB1.out.alloc hs1 (.cells #[.int .u8 49, .int .u8 50, .int .u8 51, .int .u8 52, .int .u8 53, .int .u8 54, .int .u8 55, .int .u8 56, .int .u8 57] 5 (9, 10)))
  generalize w1.alloc (.cells #[.int .u8 49, .int .u8 50, .int .u8 51, .int .u8 52, .int .u8 53, .int .u8 54, .int .u8 55, .int .u8 56, .int .u8 57] 5 (9, 10)) = w2 at HB2
  have HV2 := hide (src_keep HV.out HB2.out)
  have HZ2 := hide (zip_below HZ.out HB2.out hg)
  have HS2 := hide (seal_below HS.out hg HB2.out)
  clear HV HZ HS
  go_wp2_with fail
  refine (sum_any w2 HZ2.out _ body HV2.out HL.out).mono ?_
  rintro e w' ⟨rfl, rfl⟩
  go_wp2_with fail
  refine (ref_sum w2 _ body HV2.out HL.out).mono ?_
  rintro e w' ⟨rfl, rfl⟩
  go_wp2_with fail
  refine (seal_any w2 HS2.out _ body HV2.out HL.out).mono ?_
  rintro e w' ⟨rfl, rfl⟩
  go_wp2_with fail
  refine (ref_seal w2 _ body HV2.out HL.out).mono ?_
  rintro e w' ⟨rfl, rfl⟩
  go_wp2_with fail
  refine (extend_any w2 HZ2.out s HT.out _ body HV2.out HL.out).mono ?_
  rintro e w' ⟨rfl, rfl⟩
  go_wp2_with fail
  refine (ref_extend w2 s HT.out _ body HV2.out HL.out).mono ?_
  rintro e w' ⟨rfl, rfl⟩
  go_wp2_with fail
  refine (extend_nil w2 HZ2.out s HT.out).mono ?_
  rintro e w' ⟨rfl, rfl⟩
  go_wp2
  go_ret
  exact ⟨rfl, HB2.out⟩

/-! the frame, by program -/
set_option maxRecDepth 100000 in
theorem contract (H : Type) (enc : TypeId × Value → H) (W : World) (base : Nat) (args : Array Value) (ds gs : List (DataW H)) (before : List MemPlace)
    (hval : ∀ (j : Nat) t v, Tryd.f5.params[j]? = some t → args[j]? = some v → Value.okWide Tryd.prog W .any base t v)
    (hW : DataW.Whole enc Tryd.prog Tryd.f5.params.toList Rows.frameSumsSpec.vars false W args.toList ds gs before) (hL : laidMetH Tryd.prog Rows.frameSumsRow.laid W)
    (hsz : (DataW.weightsEach Tryd.prog (Tryd.f5.params.toList ++ []) (ds ++ gs)).all (· ≤ reachBytes) = true) :
    Calls Tryd.prog 5 args W fun e W' => ∃ v, e = .returned v ∧ Rows.frameSumsSpec.post enc Tryd.prog Tryd.f5 false true false false W args v W' := by
  have hW' := hW
  obtain ⟨p, q, hA0, hV, rfl, hfz, hnd⟩ := hW
  have hA : DataW.TrodAll enc Tryd.prog W 0 (fun _ => true) true Tryd.f5.params.toList args.toList ds p := hA0
  rw [Tryd.params5] at hA hval hsz
  obtain ⟨v0, vs0, d0, ds0, p0, q0, hargs, rfl, rfl, h0, r0⟩ := trodAll_cons hA
  obtain ⟨v1, vs1, d1, ds1, p1, q1, rfl, rfl, rfl, h1, r1⟩ := trodAll_cons r0
  obtain ⟨rfl, rfl, rfl⟩ := trodAll_nil r1
  obtain rfl : args = #[v0, v1] := by cases args; simp_all
  obtain ⟨rfl, rfl⟩ := trodVars_none hV
  obtain ⟨b0, s0, g0⟩ := open_bytes (hval 0 25 v0 rfl rfl) h0
  have e0 := bytes_reach hsz (j := 0) rfl rfl g0
  obtain ⟨x1, rfl, rfl, rfl, w1⟩ := open_int Tryd.underlying22 (hval 1 22 v1 rfl rfl) h1
  obtain ⟨l1, u1⟩ := bounds_u32 w1
  obtain ⟨n1, rfl⟩ := Int.eq_ofNat_of_zero_le l1
  clear hA0
  simp only [List.append_nil] at hW'
  have hl : laidMet Tryd.prog Rows.frameSumsRow.laid W := hL
  obtain ⟨Z, hg⟩ := zip_of_mem hl (by simp [Rows.frameSumsRow])
  have hS := seal_of_mem hl (by simp [Rows.frameSumsRow])
  have hreads : ∀ g ∈ ([0] : List Nat), ErrRead W g := by
    intro g hg
    simp only [List.mem_cons, List.not_mem_nil, or_false] at hg
    rcases hg with rfl
    · exact read0 hl (by simp [Rows.frameSumsRow])
  obtain ⟨E, hE⟩ := errs_of_reads hreads (by decide +kernel)
  have hg2 := World.block_lt_of_cell? W _ (hE.cell 0 (by decide))
  simp only at hg2
  refine (walk W Z hS hg n1 (by omega) _ b0 s0 (by omega)).mono fun e W' ⟨he, hb⟩ => ?_
  subst he
  exact ⟨_, rfl, law_post hW' rfl rfl rfl (by kernel_rfl) hb⟩

noncomputable def laidWorld (os : Os) : World := World.doorLaid Tryd.prog 475 os
noncomputable def wargs : Array Value := #[.slice none 0 0, .int .u32 0]
theorem laid_met (os : Os) : laidMetH Tryd.prog Rows.frameSumsRow.laid ((laidWorld os).forCall (fun _ _ => 0) ⟨#[], wargs, []⟩).memory :=
  laidMetH_of_parts3 (fuel := 8) (laidMet_of_run' 8 (by kernel_rfl) (by kernel_rfl)) (by kernel_rfl) (by kernel_rfl)
theorem reads (os : Os) {H : Type} (enc : TypeId × Value → H) : ∃ places, DataW.whole enc Tryd.prog ((laidWorld os).forCall (fun _ _ => 0) ⟨#[], wargs, []⟩).memory Tryd.f5.params.toList Rows.frameSumsSpec.vars false wargs.toList 8 = some ([.nil, .lit (.int .u32 0)], [], places) :=
  ⟨[], by kernel_rfl⟩

set_option maxRecDepth 100000 in
theorem lifted (os : Os) (started : os.Started) (H : Type) (enc : TypeId × Value → H) (F : Stop.Interp) :
    ReturnsInHanded {} Tryd.checked os 5 .any ((OpenSpec.ofChange Rows.frameSumsSpec).preRow enc Tryd.prog Tryd.f5 Rows.frameSumsRow.domain false Rows.frameSumsRow.laid) (((OpenSpec.ofChange Rows.frameSumsSpec).at F).post enc Tryd.prog Tryd.f5 false true false false) := by
  obtain ⟨places, hx⟩ := reads os enc
  refine returnsInHanded_of_row (C := Tryd.checked) (s := OpenSpec.ofChange Rows.frameSumsSpec) own started (by kernel_rfl) Tryd.func5
    (witness_row_atRef (enc := enc) (C := Tryd.checked) false (laidWorld os) wargs rfl (by kernel_rfl) (by kernel_rfl) (by kernel_rfl)
      (OpenSpec.preRow_of_cond 8 hx (by kernel_rfl) (fun k hk => by cases hk) (by kernel_rfl) (laid_met os))) ?_
  intro W base args ds gs before hval hW _ _ hsz hL _ _
  exact contract H enc W base args ds gs before hval hW hL hsz

theorem fact0 : (Rows.frameSumsRow.wf (OpenSpec.ofChange (OpenSpec.ofChange Rows.frameSumsSpec).bare)) = true := by kernel_rfl
theorem fact3 : (Tryd.f5.params.all (Tryd.prog.readableRec ·)) = true := by kernel_rfl
theorem fact4 : (namedTie Tryd.prog Rows.frameSumsRow.named (OpenSpec.ofChange Rows.frameSumsSpec).bare.vars) = true := by kernel_rfl
theorem fact5 : ((Rows.frameSumsRow.stops == [])) = true := by kernel_rfl
theorem fact7 : ((Rows.frameSumsRow.knobs == [])) = true := by kernel_rfl
theorem fact9 : ((Rows.frameSumsRow.inPlace == Tryd.prog.inPlace 5)) = true := by kernel_rfl
theorem fact10 : ((Rows.frameSumsRow.unfollowed == Tryd.prog.unfollowed 5)) = true := by kernel_rfl
theorem fact11 : ((Rows.frameSumsRow.recurses == Tryd.prog.recurses 5)) = true := by kernel_rfl
theorem fact12 : ((Rows.frameSumsRow.named == Tryd.prog.varsNamed 5)) = true := by kernel_rfl
theorem fact13 : ((Rows.frameSumsRow.maps == (Tryd.f5.params.toList ++ (OpenSpec.ofChange Rows.frameSumsSpec).bare.plain.varTypes Tryd.prog).any (Tryd.prog.mapsRec ·))) = true := by kernel_rfl
theorem fact14 : ((Rows.frameSumsRow.ifaces == (Tryd.f5.params.toList ++ (OpenSpec.ofChange Rows.frameSumsSpec).bare.plain.varTypes Tryd.prog).any (Tryd.prog.ifacesRec ·))) = true := by kernel_rfl
theorem fact15 : ((Rows.frameSumsRow.mapsOut == Tryd.prog.mapsAmong Tryd.f5.resultTypes.toList)) = true := by kernel_rfl
theorem fact16 : ((Rows.frameSumsRow.loops == (Tryd.f5.params.toList ++ (OpenSpec.ofChange Rows.frameSumsSpec).bare.plain.varTypes Tryd.prog).any (Tryd.prog.loopsFrom ·))) = true := by kernel_rfl
theorem fact17 : ((Rows.frameSumsRow.wideKeys == (Tryd.f5.params.toList ++ (OpenSpec.ofChange Rows.frameSumsSpec).bare.plain.varTypes Tryd.prog ++ Tryd.f5.resultTypes.toList).any (Tryd.prog.wideKeysFrom ·))) = true := by kernel_rfl
theorem fact18 : ((OpenSpec.ofChange Rows.frameSumsSpec).bare.vars.all (Tryd.prog.varReadable ·)) = true := by kernel_rfl
theorem fact19 : (Tryd.f5.resultTypes.all (fun t => Tryd.prog.readableRec t && decide (t < Tryd.prog.types.size))) = true := by kernel_rfl
theorem fact20 : ((Rows.frameSumsRow.ifacesOut == Tryd.f5.resultTypes.toList.any (Tryd.prog.ifacesRec ·))) = true := by kernel_rfl
theorem fact21 : ((Rows.frameSumsRow.loopsOut == Tryd.f5.resultTypes.toList.any (Tryd.prog.loopsFrom ·))) = true := by kernel_rfl
theorem fact22 : ((Rows.frameSumsRow.plainKeys == Tryd.prog.plainKeys)) = true := by rw [Tryd.keys]; kernel_rfl
theorem fact23 : (Rows.frameSumsRow.shortTexts.isNone) = true := by kernel_rfl
theorem fact26 : ((Rows.frameSumsRow.lifted == Tryd.prog.liftsFinal)) = true := by rw [Tryd.lifts]; kernel_rfl
theorem fact27 : ((Tryd.prog.make == some Rows.frameSumsRow.make)) = true := by rw [Tryd.makes]; kernel_rfl
theorem fact29 : ((Rows.frameSumsRow.pinned == Rows.frameSumsRow.pinnedBy)) = true := by kernel_rfl
theorem fact30 : ((Rows.frameSumsRow.veiled == (Tryd.f5.params.toList ++ (OpenSpec.ofChange Rows.frameSumsSpec).bare.plain.varTypes Tryd.prog ++ Tryd.f5.resultTypes.toList).any (Tryd.prog.veiledRec ·))) = true := by kernel_rfl
theorem fact31 : (Rows.frameSumsRow.veiledFits Tryd.prog Tryd.f5.params.toList (Tryd.f5.params.toList ++ (OpenSpec.ofChange Rows.frameSumsSpec).bare.plain.varTypes Tryd.prog ++ Tryd.f5.resultTypes.toList)) = true := by kernel_rfl
theorem closed : joinedFacts Tryd.prog 5 Tryd.f5 (OpenSpec.ofChange Rows.frameSumsSpec).bare Rows.frameSumsRow = true :=
  facts_of fact0 Tryd.laidOut Tryd.rowed fact3 fact4 fact5 Tryd.noStops fact7 Tryd.noKnobs fact9 fact10 fact11 fact12 fact13 fact14 fact15 fact16 fact17 fact18 fact19 fact20 fact21 fact22 fact23 Tryd.heard Tryd.mayEnter fact26 fact27 (by kernel_rfl) fact29 fact30 fact31
theorem named : Tryd.prog.funcNamed Rows.frameSumsRow.func = some 5 := by kernel_rfl
theorem instanced : Tryd.f5.isInstance Tryd.prog Rows.frameSumsRow.origin Rows.frameSumsRow.targs := of_decide_eq_true (by kernel_rfl)
theorem wrapped : Tryd.f5.isWrapper Tryd.prog Rows.frameSumsRow.wrapper Rows.frameSumsRow.mainSum := by unfold Func.isWrapper; first | (rw [if_pos (by decide +kernel)]; kernel_rfl) | (rw [if_neg (by decide +kernel)]; exact ⟨rfl, rfl⟩)
theorem said : Rows.FrameSumsSaid :=
  OpenClaim.holds_of_cond 5 Tryd.f5 rfl rfl rfl rfl rfl rfl rfl ⟨rfl, rfl, rfl, rfl, rfl⟩ rfl rfl rfl rfl rfl named Tryd.func5 closed
    instanced wrapped
    (fun os started H enc _ F => by rw [OpenClaim.pre_eq_preRow]; exact lifted os started H enc F)

theorem plain (f : FuncId) (fn : Func) (hf : Tryd.pinned.checked.prog.funcNamed "concord/concordlaw02.FrameSums" = some f) (hfn : Tryd.pinned.checked.prog.funcs[f]? = some fn) :
    true = Tryd.pinned.checked.prog.looks [] ∧ ∀ (j : Nat) t, fn.params[j]? = some t → Tryd.pinned.checked.prog.wantsStandIn t = false := by
  obtain rfl : f = 5 := Option.some.inj ((show Tryd.prog.funcNamed "concord/concordlaw02.FrameSums" = some 5 by kernel_rfl).symm.trans hf) |>.symm
  obtain rfl : fn = Tryd.f5 := (Option.some.inj (Tryd.func5.symm.trans hfn)).symm
  have hall : Tryd.f5.params.toList.all (fun t => !Tryd.pinned.checked.prog.wantsStandIn t) = true := by kernel_rfl
  refine ⟨by kernel_rfl, fun j t ht => ?_⟩
  have := List.all_eq_true.1 hall t (by simpa using Array.mem_of_getElem? ht)
  simpa using this

/-- THE CARD -/
theorem card : Rows.FrameSumsCardSaid :=
  Claim7.holds_tied_plain_at .later [] _ _ _ _ said (fun _ h => by cases h) (by kernel_rfl) (fun _ h => by cases h) frameSums_row_tie rfl ⟨rfl, rfl⟩ (by kernel_rfl) rfl plain (by kernel_rfl)
end Go.Proofs.YtgebekklkodpaaaDoor.frameSums
