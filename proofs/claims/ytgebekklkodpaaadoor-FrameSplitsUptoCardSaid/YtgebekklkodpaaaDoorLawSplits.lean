/- Proved: for every three lists of bytes a, b, c (up to the Upto row's bulk), FrameSplits returns true (the sum of a and b one behind the other by Sum, Extend and Join alike; three lists joined in either order), and nothing that lay in memory ahead of the call has changed. Conditions: the package variables that the row lists hold what their initialisers lay; the card ties that to the text. -/
import Derived.Test.YtgebekklkodpaaaDoorAlg
import Derived.Test.YtgebekklkodpaaaDoorAp
import Derived.Test.YtgebekklkodpaaaDoorUpto
import Derived.Test.YtgebekklkodpaaaDoorTies
import Derived.Deep.DeepWitnessRowRef
namespace Go.Proofs.YtgebekklkodpaaaDoor.frameSplits
open Go.ChangeShapes Go.WideShapes Go.ChangeAt Go.RowKit Go.Proofs.YtgebekklkodpaaaDoor

set_option maxRecDepth 100000 in
set_option maxHeartbeats 4000000 in
theorem walk (w : World) (Z : Zip w) (hg : 16 < w.heap.size) (va vb vc : Value) (a b c : List Nat) (ha : Src w va a) (hb : Src w vb b) (hc : Src w vc c) (hl : a.length + b.length + c.length ≤ 140737488355328) :
    Calls Tryd.prog 7 #[va, vb, vc] w fun e w' => e = .returned (.bool true) ∧ Below w.heap.size w w' := by
  obtain ⟨aa, ca, rfl⟩ := src_form ha
  obtain ⟨ab, cb, rfl⟩ := src_form hb
  obtain ⟨ac, cc, rfl⟩ := src_form hc
  have HZ := hide Z
  have HA := hide ha
  have HB := hide hb
  have HC := hide hc
  have HL := hide hl
  clear Z ha hb hc hl
  go_enter Tryd.func7, Tryd.ntmps7
  go_wp2_with fail
  refine (lives_any w HZ.out (by omega)).mono ?_
  rintro e w1 ⟨rfl, hb1⟩
  have hs1 := hb1.size
  have HO1 := hide (own_lit w1 w.heap.size [] hs1 (by simp) #[] rfl)
  have HB1 := hide (hb1.alloc hs1 (.cells #[] 5))
  clear hb1
  go_wp2_with (refine append_src w (w1.alloc (.cells #[] 5)) w.heap.size _ _ [] a rfl (.tmp 16) (.tmp 17) rfl rfl rfl HO1.out (src_keep HA.out HB1.out) ?_ (by simp; omega) HB1.out ?_)
  case refine_1 => have := HL.out; simp; omega
  intro v2 w2 ho2 hb2
  have HO2 := hide ho2
  have HB2 := hide hb2
  clear ho2 hb2 HO1
  go_wp2_with (refine append_src w w2 w.heap.size v2 _ a b rfl (.tmp 18) (.tmp 19) rfl rfl rfl HO2.out (src_keep HB.out HB2.out) ?_ HB2.out.size HB2.out ?_)
  case refine_1 => have := HL.out; omega
  intro v3 w3 ho3 hb3
  have h256 : ∀ x ∈ a ++ b, x < 256 := by
    intro x hx
    rcases List.mem_append.1 hx with h | h
    · exact HA.out.1 x h
    · exact HB.out.1 x h
  have hs3 := hb3.size
  have hsrc3 := own_src ho3 h256
  obtain ⟨a3, c3, rfl⟩ := src_form hsrc3
  have HS3 := hide hsrc3
  have HB3 := hide hb3
  clear ho3 hb3 HO2 h256 hsrc3
  have HL2 := hide (show (a ++ b).length + c.length ≤ 140737488355328 by have := HL.out; simp; omega)
  have HSA := hide (ext_sum a b)
  have HJA := hide (join_sum a b)
  generalize hd : a ++ b = d at HS3 HL2 HSA HJA
  have HO3 := hide (own_lit w3 w3.heap.size [] (Nat.le_refl _) (by simp) #[] rfl)
  have HB4 := hide ((Below.refl w3.heap.size w3).alloc (Nat.le_refl _) (.cells #[] 5))
  go_wp2_with (refine append_src w3 (w3.alloc (.cells #[] 5)) w3.heap.size _ _ [] d rfl (.tmp 21) (.tmp 22) rfl rfl rfl HO3.out (src_keep HS3.out HB4.out) ?_ (by simp) HB4.out ?_)
  case refine_1 => have := HL2.out; simp; omega
  intro v5 w5 ho5 hb5
  have HO5 := hide ho5
  have HB5 := hide hb5
  clear ho5 hb5 HO3 HB4
  go_wp2_with (refine append_src w3 w5 w3.heap.size v5 _ d c rfl (.tmp 23) (.tmp 24) rfl rfl rfl HO5.out (src_keep HC.out (HB3.out.trans (HB5.out.mono hs3))) ?_ HB5.out.size HB5.out ?_)
  case refine_1 => exact HL2.out
  intro v6 w6 ho6 hb6
  have h256 : ∀ x ∈ d ++ c, x < 256 := by
    intro x hx
    rcases List.mem_append.1 hx with h | h
    · exact HS3.out.1 x h
    · exact HC.out.1 x h
  have hsrc6 := own_src ho6 h256
  obtain ⟨a6, c6, rfl⟩ := src_form hsrc6
  have HS6 := hide hsrc6
  have HS3 := hide (src_keep HS3.out hb6)
  have HB6 := hide (HB3.out.trans (hb6.mono hs3))
  clear ho6 hb6 HO5 h256 hsrc6 HB5 HB3 HB2 HB1
  have HA := hide (src_keep HA.out HB6.out)
  have HB := hide (src_keep HB.out HB6.out)
  have HC := hide (src_keep HC.out HB6.out)
  have HLL := hide (show d.length ≤ 9223372036854775807 ∧ a.length ≤ 9223372036854775807 ∧ b.length ≤ 9223372036854775807 ∧ c.length ≤ 9223372036854775807 ∧ (d ++ c).length ≤ 9223372036854775807 ∧ b.length + c.length ≤ 9223372036854775807 by
    have h1 := HL.out
    have h2 := HL2.out
    refine ⟨by omega, by omega, by omega, by omega, by simp; omega, by omega⟩)
  have HJC := hide (join_sum d c)
  generalize hall : d ++ c = all at HS6 HLL HJC
  clear hall hd
  have hs6 := HB6.out.size
  have Z6 := zip_below HZ.out HB6.out hg
  have lA := sum_lt HA.out.1
  have lB := sum_lt HB.out.1
  have lC := sum_lt HC.out.1
  have lD := sum_lt HS3.out.1
  have HX := hide (sum_any w6 Z6 _ a HA.out HLL.out.2.1)
  have HY := hide (sum_any w6 Z6 _ b HB.out HLL.out.2.2.1)
  have HW := hide (sum_any w6 Z6 _ c HC.out HLL.out.2.2.2.1)
  have HD := hide (sum_any w6 Z6 _ d HS3.out HLL.out.1)
  have HE := hide (extend_any w6 Z6 (sum a) lA _ b HB.out HLL.out.2.2.1)
  have HJ3 := hide ((join_three (sum a) (sum b) (sum c) b.length c.length).trans ((congrArg (fun x => joinN x (sum c) c.length) HJA.out).trans HJC.out))
  have HM := hide fun (w' : World) (h : Below w6.heap.size w6 w') => sum_any w' (zip_below HZ.out (HB6.out.trans (h.mono hs6)) hg) _ all (src_keep HS6.out h) HLL.out.2.2.2.2.1
  rw [HSA.out] at HE
  have HH1 := hide HJA.out
  have HH2 := hide HJC.out
  clear HSA HJA HJC Z6
  generalize sum a = X at HX HE HJ3 HH1 lA
  generalize sum b = Y at HY HJ3 HH1 lB
  generalize sum c = V at HW HJ3 HH2 lC
  generalize sum d = D at HD HE HH1 HH2 lD
  generalize sum all = M at HM HJ3 HH2
  have HB6' := hide (Below.refl w6.heap.size w6)
  go_wp2_with fail
  refine HX.out.mono ?_
  rintro e w' ⟨rfl, rfl⟩
  go_wp2_with fail
  refine HY.out.mono ?_
  rintro e w' ⟨rfl, rfl⟩
  go_wp2_with fail
  refine HW.out.mono ?_
  rintro e w' ⟨rfl, rfl⟩
  go_wp2_with fail
  refine HD.out.mono ?_
  rintro e w' ⟨rfl, rfl⟩
  go_wp2_with fail
  refine HE.out.mono ?_
  rintro e w' ⟨rfl, rfl⟩
  go_wp2_with fail
  refine (join_step w w6 HZ hg HB6 X Y b.length lA lB HLL.out.2.2.1).mono ?_
  rw [HH1.out]
  rintro e w7 ⟨rfl, hb7⟩
  have HB7' := hide (HB6'.out.trans hb7)
  have HB7 := hide (HB6.out.trans (hb7.mono hs6))
  clear hb7
  go_wp2_with fail
  have HV := hide (joinN_lt c.length lB lC)
  refine (join_step w w7 HZ hg HB7 Y V c.length lB lC HLL.out.2.2.2.1).mono ?_
  rintro e w8 ⟨rfl, hb8⟩
  generalize joinN Y V c.length = U at HV HJ3
  have HB8' := hide (HB7'.out.trans (hb8.mono HB7'.out.size))
  have HB8 := hide (HB7.out.trans (hb8.mono HB7.out.size))
  clear hb8
  go_wp2_with fail
  refine (join_step w w8 HZ hg HB8 D V c.length lD lC HLL.out.2.2.2.1).mono ?_
  rw [HH2.out]
  rintro e w9 ⟨rfl, hb9⟩
  have HB9' := hide (HB8'.out.trans (hb9.mono HB8'.out.size))
  have HB9 := hide (HB8.out.trans (hb9.mono HB8.out.size))
  clear hb9
  go_wp2_with fail
  refine (HM.out w9 HB9'.out).mono ?_
  rintro e w' ⟨rfl, rfl⟩
  have hw : IntKind.i64.wrap ((b.length : Int) + c.length) = ((b.length + c.length : Nat) : Int) := by have := HLL.out.2.2.2.2.2; rw [IntKind.wrap_i64]; omega
  go_wp2_with fail
  have hJ := join_step w w9 HZ hg HB9 X U (b.length + c.length) lA HV.out HLL.out.2.2.2.2.2
  rw [HJ3.out] at hJ
  refine hJ.mono ?_
  rintro e w10 ⟨rfl, hb10⟩
  have HB10' := hide (HB9'.out.trans (hb10.mono HB9'.out.size))
  have HB10 := hide (HB9.out.trans (hb10.mono HB9.out.size))
  clear hb10 hJ
  go_wp2_with fail
  refine (HM.out w10 HB10'.out).mono ?_
  rintro e w' ⟨rfl, rfl⟩
  go_wp2
  go_ret
  exact ⟨by simp, HB10.out⟩

/-! the frame, by program -/
set_option maxRecDepth 100000 in
theorem contract (H : Type) (enc : TypeId × Value → H) (W : World) (base : Nat) (args : Array Value) (ds gs : List (DataW H)) (before : List MemPlace)
    (hval : ∀ (j : Nat) t v, Tryd.f7.params[j]? = some t → args[j]? = some v → Value.okWide Tryd.prog W .any base t v)
    (hW : DataW.Whole enc Tryd.prog Tryd.f7.params.toList Rows.frameSplitsSpec.vars false W args.toList ds gs before) (hL : laidMetH Tryd.prog Rows.frameSplitsRow.laid W)
    (hsz : (DataW.weightsEach Tryd.prog (Tryd.f7.params.toList ++ []) (ds ++ gs)).all (· ≤ reachBytes) = true) (hk : Rows.uptoSmall H (ds ++ gs) = true) :
    Calls Tryd.prog 7 args W fun e W' => ∃ v, e = .returned v ∧ Rows.frameSplitsSpec.post enc Tryd.prog Tryd.f7 false true false false W args v W' := by
  have hW' := hW
  obtain ⟨p, q, hA0, hV, rfl, hfz, hnd⟩ := hW
  have hA : DataW.TrodAll enc Tryd.prog W 0 (fun _ => true) true Tryd.f7.params.toList args.toList ds p := hA0
  rw [Tryd.params7] at hA hval hsz
  obtain ⟨v0, vs0, d0, ds0, p0, q0, hargs, rfl, rfl, h0, r0⟩ := trodAll_cons hA
  obtain ⟨v1, vs1, d1, ds1, p1, q1, rfl, rfl, rfl, h1, r1⟩ := trodAll_cons r0
  obtain ⟨v2, vs2, d2, ds2, p2, q2, rfl, rfl, rfl, h2, r2⟩ := trodAll_cons r1
  obtain ⟨rfl, rfl, rfl⟩ := trodAll_nil r2
  obtain rfl : args = #[v0, v1, v2] := by cases args; simp_all
  obtain ⟨rfl, rfl⟩ := trodVars_none hV
  obtain ⟨b0, s0, g0⟩ := open_bytes (hval 0 25 v0 rfl rfl) h0
  have e0 := small_bytes hk (j := 0) rfl g0
  obtain ⟨b1, s1, g1⟩ := open_bytes (hval 1 25 v1 rfl rfl) h1
  have e1 := small_bytes hk (j := 1) rfl g1
  obtain ⟨b2, s2, g2⟩ := open_bytes (hval 2 25 v2 rfl rfl) h2
  have e2 := small_bytes hk (j := 2) rfl g2
  clear hA0
  simp only [List.append_nil] at hW'
  have hl : laidMet Tryd.prog Rows.frameSplitsRow.laid W := hL
  obtain ⟨Z, hg⟩ := zip_of_mem hl (by simp [Rows.frameSplitsRow])
  have hreads : ∀ g ∈ ([0] : List Nat), ErrRead W g := by
    intro g hg
    simp only [List.mem_cons, List.not_mem_nil, or_false] at hg
    rcases hg with rfl
    · exact read0 hl (by simp [Rows.frameSplitsRow])
  obtain ⟨E, hE⟩ := errs_of_reads hreads (by decide +kernel)
  have hg2 := World.block_lt_of_cell? W _ (hE.cell 0 (by decide))
  simp only at hg2
  refine (walk W Z hg _ _ _ b0 b1 b2 s0 s1 s2 (by omega)).mono fun e W' ⟨he, hb⟩ => ?_
  subst he
  exact ⟨_, rfl, law_post hW' rfl rfl rfl (by kernel_rfl) hb⟩

noncomputable def laidWorld (os : Os) : World := World.doorLaid Tryd.prog 475 os
noncomputable def wargs : Array Value := #[.slice none 0 0, .slice none 0 0, .slice none 0 0]
theorem laid_met (os : Os) : laidMetH Tryd.prog Rows.frameSplitsRow.laid ((laidWorld os).forCall (fun _ _ => 0) ⟨#[], wargs, []⟩).memory :=
  laidMetH_of_parts3 (fuel := 8) (laidMet_of_run' 8 (by kernel_rfl) (by kernel_rfl)) (by kernel_rfl) (by kernel_rfl)
theorem reads (os : Os) {H : Type} (enc : TypeId × Value → H) : ∃ places, DataW.whole enc Tryd.prog ((laidWorld os).forCall (fun _ _ => 0) ⟨#[], wargs, []⟩).memory Tryd.f7.params.toList Rows.frameSplitsSpec.vars false wargs.toList 8 = some ([.nil, .nil, .nil], [], places) :=
  ⟨[], by kernel_rfl⟩

set_option maxRecDepth 100000 in
theorem lifted (os : Os) (started : os.Started) (H : Type) (enc : TypeId × Value → H) (F : Stop.Interp) :
    ReturnsInHanded {} Tryd.checked os 7 .any ((Rows.OpenSpec.upto Rows.frameSplitsSpec).preRow enc Tryd.prog Tryd.f7 Rows.frameSplitsUptoRow.domain false Rows.frameSplitsUptoRow.laid) (((Rows.OpenSpec.upto Rows.frameSplitsSpec).at F).post enc Tryd.prog Tryd.f7 false true false false) := by
  obtain ⟨places, hx⟩ := reads os enc
  refine returnsInHanded_of_row (C := Tryd.checked) (s := Rows.OpenSpec.upto Rows.frameSplitsSpec) own started (by kernel_rfl) Tryd.func7
    (witness_row_atRef (enc := enc) (C := Tryd.checked) false (laidWorld os) wargs rfl (by kernel_rfl) (by kernel_rfl) (by kernel_rfl)
      (OpenSpec.preRow_of_cond 8 hx (by kernel_rfl) (fun k hk => by cases hk; kernel_rfl) (by kernel_rfl) (laid_met os))) ?_
  intro W base args ds gs before hval hW _ hcond hsz hL _ _
  exact contract H enc W base args ds gs before hval hW hL hsz (hcond _ rfl)

theorem fact0 : (Rows.frameSplitsUptoRow.wf (OpenSpec.ofChange (Rows.OpenSpec.upto Rows.frameSplitsSpec).bare)) = true := by kernel_rfl
theorem fact3 : (Tryd.f7.params.all (Tryd.prog.readableRec ·)) = true := by kernel_rfl
theorem fact4 : (namedTie Tryd.prog Rows.frameSplitsUptoRow.named (Rows.OpenSpec.upto Rows.frameSplitsSpec).bare.vars) = true := by kernel_rfl
theorem fact5 : ((Rows.frameSplitsUptoRow.stops == [])) = true := by kernel_rfl
theorem fact7 : ((Rows.frameSplitsUptoRow.knobs == [])) = true := by kernel_rfl
theorem fact9 : ((Rows.frameSplitsUptoRow.inPlace == Tryd.prog.inPlace 7)) = true := by kernel_rfl
theorem fact10 : ((Rows.frameSplitsUptoRow.unfollowed == Tryd.prog.unfollowed 7)) = true := by kernel_rfl
theorem fact11 : ((Rows.frameSplitsUptoRow.recurses == Tryd.prog.recurses 7)) = true := by kernel_rfl
theorem fact12 : ((Rows.frameSplitsUptoRow.named == Tryd.prog.varsNamed 7)) = true := by kernel_rfl
theorem fact13 : ((Rows.frameSplitsUptoRow.maps == (Tryd.f7.params.toList ++ (Rows.OpenSpec.upto Rows.frameSplitsSpec).bare.plain.varTypes Tryd.prog).any (Tryd.prog.mapsRec ·))) = true := by kernel_rfl
theorem fact14 : ((Rows.frameSplitsUptoRow.ifaces == (Tryd.f7.params.toList ++ (Rows.OpenSpec.upto Rows.frameSplitsSpec).bare.plain.varTypes Tryd.prog).any (Tryd.prog.ifacesRec ·))) = true := by kernel_rfl
theorem fact15 : ((Rows.frameSplitsUptoRow.mapsOut == Tryd.prog.mapsAmong Tryd.f7.resultTypes.toList)) = true := by kernel_rfl
theorem fact16 : ((Rows.frameSplitsUptoRow.loops == (Tryd.f7.params.toList ++ (Rows.OpenSpec.upto Rows.frameSplitsSpec).bare.plain.varTypes Tryd.prog).any (Tryd.prog.loopsFrom ·))) = true := by kernel_rfl
theorem fact17 : ((Rows.frameSplitsUptoRow.wideKeys == (Tryd.f7.params.toList ++ (Rows.OpenSpec.upto Rows.frameSplitsSpec).bare.plain.varTypes Tryd.prog ++ Tryd.f7.resultTypes.toList).any (Tryd.prog.wideKeysFrom ·))) = true := by kernel_rfl
theorem fact18 : ((Rows.OpenSpec.upto Rows.frameSplitsSpec).bare.vars.all (Tryd.prog.varReadable ·)) = true := by kernel_rfl
theorem fact19 : (Tryd.f7.resultTypes.all (fun t => Tryd.prog.readableRec t && decide (t < Tryd.prog.types.size))) = true := by kernel_rfl
theorem fact20 : ((Rows.frameSplitsUptoRow.ifacesOut == Tryd.f7.resultTypes.toList.any (Tryd.prog.ifacesRec ·))) = true := by kernel_rfl
theorem fact21 : ((Rows.frameSplitsUptoRow.loopsOut == Tryd.f7.resultTypes.toList.any (Tryd.prog.loopsFrom ·))) = true := by kernel_rfl
theorem fact22 : ((Rows.frameSplitsUptoRow.plainKeys == Tryd.prog.plainKeys)) = true := by rw [Tryd.keys]; kernel_rfl
theorem fact23 : (Rows.frameSplitsUptoRow.shortTexts.isNone) = true := by kernel_rfl
theorem fact26 : ((Rows.frameSplitsUptoRow.lifted == Tryd.prog.liftsFinal)) = true := by rw [Tryd.lifts]; kernel_rfl
theorem fact27 : ((Tryd.prog.make == some Rows.frameSplitsUptoRow.make)) = true := by rw [Tryd.makes]; kernel_rfl
theorem fact29 : ((Rows.frameSplitsUptoRow.pinned == Rows.frameSplitsUptoRow.pinnedBy)) = true := by kernel_rfl
theorem fact30 : ((Rows.frameSplitsUptoRow.veiled == (Tryd.f7.params.toList ++ (Rows.OpenSpec.upto Rows.frameSplitsSpec).bare.plain.varTypes Tryd.prog ++ Tryd.f7.resultTypes.toList).any (Tryd.prog.veiledRec ·))) = true := by kernel_rfl
theorem fact31 : (Rows.frameSplitsUptoRow.veiledFits Tryd.prog Tryd.f7.params.toList (Tryd.f7.params.toList ++ (Rows.OpenSpec.upto Rows.frameSplitsSpec).bare.plain.varTypes Tryd.prog ++ Tryd.f7.resultTypes.toList)) = true := by kernel_rfl
theorem closed : joinedFacts Tryd.prog 7 Tryd.f7 (Rows.OpenSpec.upto Rows.frameSplitsSpec).bare Rows.frameSplitsUptoRow = true :=
  facts_of fact0 Tryd.laidOut Tryd.rowed fact3 fact4 fact5 Tryd.noStops fact7 Tryd.noKnobs fact9 fact10 fact11 fact12 fact13 fact14 fact15 fact16 fact17 fact18 fact19 fact20 fact21 fact22 fact23 Tryd.heard Tryd.mayEnter fact26 fact27 (by kernel_rfl) fact29 fact30 fact31
theorem named : Tryd.prog.funcNamed Rows.frameSplitsUptoRow.func = some 7 := by kernel_rfl
theorem instanced : Tryd.f7.isInstance Tryd.prog Rows.frameSplitsUptoRow.origin Rows.frameSplitsUptoRow.targs := of_decide_eq_true (by kernel_rfl)
theorem wrapped : Tryd.f7.isWrapper Tryd.prog Rows.frameSplitsUptoRow.wrapper Rows.frameSplitsUptoRow.mainSum := by unfold Func.isWrapper; first | (rw [if_pos (by decide +kernel)]; kernel_rfl) | (rw [if_neg (by decide +kernel)]; exact ⟨rfl, rfl⟩)
theorem said : Rows.FrameSplitsUptoSaid :=
  OpenClaim.holds_of_cond 7 Tryd.f7 rfl rfl rfl rfl rfl rfl rfl ⟨rfl, rfl, rfl, rfl, rfl⟩ rfl rfl rfl rfl rfl named Tryd.func7 closed
    instanced wrapped
    (fun os started H enc _ F => by rw [OpenClaim.pre_eq_preRow]; exact lifted os started H enc F)

theorem plain (f : FuncId) (fn : Func) (hf : Tryd.pinned.checked.prog.funcNamed "concord/concordlaw02.FrameSplits" = some f) (hfn : Tryd.pinned.checked.prog.funcs[f]? = some fn) :
    true = Tryd.pinned.checked.prog.looks [] ∧ ∀ (j : Nat) t, fn.params[j]? = some t → Tryd.pinned.checked.prog.wantsStandIn t = false := by
  obtain rfl : f = 7 := Option.some.inj ((show Tryd.prog.funcNamed "concord/concordlaw02.FrameSplits" = some 7 by kernel_rfl).symm.trans hf) |>.symm
  obtain rfl : fn = Tryd.f7 := (Option.some.inj (Tryd.func7.symm.trans hfn)).symm
  have hall : Tryd.f7.params.toList.all (fun t => !Tryd.pinned.checked.prog.wantsStandIn t) = true := by kernel_rfl
  refine ⟨by kernel_rfl, fun j t ht => ?_⟩
  have := List.all_eq_true.1 hall t (by simpa using Array.mem_of_getElem? ht)
  simpa using this

/-- THE CARD -/
theorem card : Rows.FrameSplitsUptoCardSaid :=
  Claim7.holds_tied_plain_at .later [] _ _ _ _ said (fun _ h => by cases h) (by kernel_rfl) (fun _ h => by cases h) frameSplitsUpto_row_tie rfl ⟨rfl, rfl⟩ (by kernel_rfl) rfl plain (by kernel_rfl)
end Go.Proofs.YtgebekklkodpaaaDoor.frameSplits
