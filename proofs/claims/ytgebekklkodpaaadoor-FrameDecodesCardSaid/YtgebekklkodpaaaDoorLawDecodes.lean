/- Proved: for every list of bytes, FrameDecodes returns true (frame.Decode answers what the reference's Decode answers: tag, body, size and error), and nothing that lay in memory ahead of the call has changed. Conditions: the package variables that the row lists (the errors, frame.zipTable) hold what their initialisers lay; the card ties that to the text. -/
import Derived.Test.YtgebekklkodpaaaDoorDcAny
import Derived.Test.YtgebekklkodpaaaDoorOpen
import Derived.Test.YtgebekklkodpaaaDoorTies
import Derived.Deep.DeepWitnessRowRef
namespace Go.Proofs.YtgebekklkodpaaaDoor.frameDecodes
open Go.ChangeShapes Go.WideShapes Go.ChangeAt Go.RowKit Go.Proofs.YtgebekklkodpaaaDoor

theorem ids_lt {B : Nat} (h : 26 ≤ B) : ∀ g ∈ allErrs, g < B := by
  intro g hg
  have : g ≤ 25 := by revert hg; revert g; decide
  omega

set_option maxRecDepth 100000 in
set_option maxHeartbeats 1000000 in
theorem walk_err (w : World) (Z : Zip w) (E : Nat → Addr) (hE : Errs w E allErrs) (hg : 26 ≤ w.heap.size) (v : Value) (b : List Nat) (hv : Src w v b) (hl : b.length ≤ 140737488355200) (g : Nat) (hd : dec b = .inl g) :
    Calls Tryd.prog 9 #[v] w fun e w' => e = .returned (.bool true) ∧ Below w.heap.size w w' := by
  obtain ⟨ao, cap, rfl⟩ := src_form hv
  have HZ := hide Z
  have HE := hide hE
  have HV := hide hv
  have HD := hide hd
  have HL := hide hl
  clear Z hE hv hd hl
  go_enter Tryd.func9, Tryd.ntmps9
  go_wp2_with fail
  refine (lives_any w HZ.out (by omega)).mono ?_
  rintro e w1 ⟨rfl, hb1⟩
  have HB1 := hide hb1
  have hs1 := hb1.size
  have HE1 := hide (HE.out.below hb1 (Nat.le_refl _) (ids_lt hg))
  clear hb1
  go_wp2_with fail
  refine (decode_any w1 (zip_below HZ.out HB1.out (by omega)) E (HE1.out.cell 0 (by decide)) (HE1.out.cell 1 (by decide)) (HE1.out.cell 2 (by decide)) (HE1.out.cell 6 (by decide)) (by omega) _ b (src_keep HV.out HB1.out) (by have := HL.out; omega)).mono ?_
  rintro e w2 ⟨hout, hb2⟩
  rw [DecOut, HD.out] at hout
  subst hout
  have HB2 := hide (HB1.out.trans (hb2.mono hs1))
  clear hb2
  have hs2 := HB2.out.size
  go_wp2_with fail
  have HB3 := hide (HB2.out.alloc hs2 (.cells #[.int .u8 0, .slice none 0 0] 47))
  have HR3 := hide (heap_new (w := w2) rfl (.cells #[.int .u8 0, .slice none 0 0] 47))
  generalize w2.alloc (.cells #[.int .u8 0, .slice none 0 0] 47) = w3 at HB3 HR3 ⊢
  refine (ref_decode_any w3 _ b (src_keep HV.out HB3.out) (by have := HL.out; omega)).mono ?_
  rintro e w4 ⟨hout, hb4⟩
  rw [RefDecOut, HD.out] at hout
  subst hout
  have HB4 := hide (HB3.out.trans (hb4.mono HB3.out.size))
  have HR4 := hide ((hb4.block _ (heap_lt HR3.out)).trans HR3.out)
  clear hb4 HR3 HB3
  obtain ⟨c0, c1⟩ := cells2 (heap_old HR4.out (.cells #[.int .u8 0, .slice none 0 0] 47))
  obtain ⟨d0, d1⟩ := cells2 (heap_new (w := w4) rfl (.cells #[.int .u8 0, .slice none 0 0] 47))
  have HB5 := hide (HB4.out.alloc HB4.out.size (.cells #[.int .u8 0, .slice none 0 0] 47))
  have HN := hide (num_dec _ E (HE.out.below HB5.out (Nat.le_refl _) (ids_lt hg)) HD.out)
  go_wp2_with fail
  generalize w4.alloc (.cells #[.int .u8 0, .slice none 0 0] 47) = w5 at c0 c1 d0 d1 HB5 HN ⊢
  have hs := run_convert_bytes_nil (P := Tryd.prog) w5 25 5 Tryd.underlying25 Tryd.underlying5 0 0 9 under9
  refine HN.out.mono ?_
  rintro e w' ⟨rfl, rfl⟩
  go_wp2
  go_ret
  exact ⟨rfl, HB5.out⟩

set_option maxRecDepth 100000 in
set_option maxHeartbeats 1000000 in
theorem walk_ok (w : World) (Z : Zip w) (E : Nat → Addr) (hE : Errs w E allErrs) (hg : 26 ≤ w.heap.size) (v : Value) (b : List Nat) (hv : Src w v b) (hl : b.length ≤ 140737488355200) (i j : Nat) (hd : dec b = .inr (i, j)) :
    Calls Tryd.prog 9 #[v] w fun e w' => e = .returned (.bool true) ∧ Below w.heap.size w w' := by
  obtain ⟨ao, cap, rfl⟩ := src_form hv
  have hx256 : ∀ x ∈ (b.take j).drop i, x < 256 := fun x hx => hv.1 x (List.mem_of_mem_take (List.mem_of_mem_drop hx))
  have hbl : ((b.take j).drop i).length = j - i := by
    obtain ⟨t, r, rfl, _, _, h4, _⟩ := dec_ok hv.1 hd
    rw [List.length_drop, List.length_take]; omega
  have HZ := hide Z
  have HE := hide hE
  have HV := hide hv
  have HD := hide hd
  have HL := hide hl
  have HX := hide hx256
  have HBL := hide hbl
  have hbl2 : ((b.take j).drop i).length ≤ b.length := by rw [List.length_drop, List.length_take]; omega
  have HBL2 := hide hbl2
  clear Z hE hv hd hl hx256 hbl hbl2
  go_enter Tryd.func9, Tryd.ntmps9
  go_wp2_with fail
  refine (lives_any w HZ.out (by omega)).mono ?_
  rintro e w1 ⟨rfl, hb1⟩
  have HB1 := hide hb1
  have hs1 := hb1.size
  have HE1 := hide (HE.out.below hb1 (Nat.le_refl _) (ids_lt hg))
  clear hb1
  go_wp2_with fail
  refine (decode_any w1 (zip_below HZ.out HB1.out (by omega)) E (HE1.out.cell 0 (by decide)) (HE1.out.cell 1 (by decide)) (HE1.out.cell 2 (by decide)) (HE1.out.cell 6 (by decide)) (by omega) _ b (src_keep HV.out HB1.out) (by have := HL.out; omega)).mono ?_
  rintro e w2 ⟨hout, hb2⟩
  rw [DecOut, HD.out] at hout
  obtain ⟨g2, rfl, hg2, hh2⟩ := hout
  have HB2 := hide (HB1.out.trans (hb2.mono hs1))
  have HS2 := hide (src_block hh2 HX.out (by have := HBL2.out; have := HL.out; omega))
  rw [HBL.out] at HS2
  clear hb2 hh2 hg2
  have hs2 := HB2.out.size
  obtain ⟨t, ht⟩ : ∃ t, b.getD 0 0 = t := ⟨_, rfl⟩
  obtain ⟨body, hbody⟩ : ∃ body, (b.take j).drop i = body := ⟨_, rfl⟩
  have HT := hide ht
  have HBO := hide hbody
  rw [hbody] at HS2 HX HBL HBL2
  rw [ht]
  clear ht hbody
  go_wp2_with fail
  have HB3 := hide (HB2.out.alloc hs2 (.cells #[.int .u8 t, .slice (some ⟨g2, 0, none⟩) (j - i) (j - i)] 47))
  have HR3 := hide (heap_new (w := w2) rfl (.cells #[.int .u8 t, .slice (some ⟨g2, 0, none⟩) (j - i) (j - i)] 47))
  have HS3 := hide (src_keep HS2.out ((Below.refl w2.heap.size w2).alloc (Nat.le_refl _) (.cells #[.int .u8 t, .slice (some ⟨g2, 0, none⟩) (j - i) (j - i)] 47)))
  generalize w2.alloc (.cells #[.int .u8 t, .slice (some ⟨g2, 0, none⟩) (j - i) (j - i)] 47) = w3 at HB3 HR3 HS3 ⊢
  refine (ref_decode_any w3 _ b (src_keep HV.out HB3.out) (by have := HL.out; omega)).mono ?_
  rintro e w4 ⟨hout, hb4⟩
  rw [RefDecOut, HD.out] at hout
  obtain ⟨v4, rfl, hs4⟩ := hout
  rw [HBO.out] at hs4
  rw [HT.out]
  obtain ⟨a4, c4, rfl⟩ := src_form hs4
  have HB4 := hide (HB3.out.trans (hb4.mono HB3.out.size))
  have HR4 := hide ((hb4.block _ (heap_lt HR3.out)).trans HR3.out)
  have HS4 := hide (src_keep HS3.out hb4)
  have HQ4 := hide hs4
  clear hb4 HR3 HB3 HS3 hs4
  have hba := (Below.refl w4.heap.size w4).alloc (Nat.le_refl _) (.cells #[.int .u8 t, .slice a4 body.length c4] 47)
  obtain ⟨c0, c1⟩ := cells2 (heap_old HR4.out (.cells #[.int .u8 t, .slice a4 body.length c4] 47))
  obtain ⟨d0, d1⟩ := cells2 (heap_new (w := w4) rfl (.cells #[.int .u8 t, .slice a4 body.length c4] 47))
  have HB5 := hide (HB4.out.alloc HB4.out.size (.cells #[.int .u8 t, .slice a4 body.length c4] 47))
  have hA := src_string (src_keep HS4.out hba)
  have hB := src_string (src_keep HQ4.out hba)
  have HN := hide (num_nil (w4.alloc (.cells #[.int .u8 t, .slice a4 body.length c4] 47)))
  go_wp2_with fail
  generalize w4.alloc (.cells #[.int .u8 t, .slice a4 body.length c4] 47) = w5 at c0 c1 d0 d1 HB5 HN hA hB ⊢
  refine HN.out.mono ?_
  rintro e w' ⟨rfl, rfl⟩
  go_wp2
  go_ret
  exact ⟨rfl, HB5.out⟩

theorem walk (w : World) (Z : Zip w) (E : Nat → Addr) (hE : Errs w E allErrs) (hg : 26 ≤ w.heap.size) (v : Value) (b : List Nat) (hv : Src w v b) (hl : b.length ≤ 140737488355200) :
    Calls Tryd.prog 9 #[v] w fun e w' => e = .returned (.bool true) ∧ Below w.heap.size w w' := by
  cases hd : dec b with
  | inl g => exact walk_err w Z E hE hg v b hv hl g hd
  | inr q => exact walk_ok w Z E hE hg v b hv hl q.1 q.2 hd

/-! the frame, by program -/
set_option maxRecDepth 100000 in
theorem contract (H : Type) (enc : TypeId × Value → H) (W : World) (base : Nat) (args : Array Value) (ds gs : List (DataW H)) (before : List MemPlace)
    (hval : ∀ (j : Nat) t v, Tryd.f9.params[j]? = some t → args[j]? = some v → Value.okWide Tryd.prog W .any base t v)
    (hW : DataW.Whole enc Tryd.prog Tryd.f9.params.toList Rows.frameDecodesSpec.vars false W args.toList ds gs before) (hL : laidMetH Tryd.prog Rows.frameDecodesRow.laid W)
    (hsz : (DataW.weightsEach Tryd.prog (Tryd.f9.params.toList ++ []) (ds ++ gs)).all (· ≤ reachBytes) = true) :
    Calls Tryd.prog 9 args W fun e W' => ∃ v, e = .returned v ∧ Rows.frameDecodesSpec.post enc Tryd.prog Tryd.f9 false true false false W args v W' := by
  have hW' := hW
  obtain ⟨p, q, hA0, hV, rfl, hfz, hnd⟩ := hW
  have hA : DataW.TrodAll enc Tryd.prog W 0 (fun _ => true) true Tryd.f9.params.toList args.toList ds p := hA0
  rw [Tryd.params9] at hA hval hsz
  obtain ⟨v0, vs0, d0, ds0, p0, q0, hargs, rfl, rfl, h0, r0⟩ := trodAll_cons hA
  obtain ⟨rfl, rfl, rfl⟩ := trodAll_nil r0
  obtain rfl : args = #[v0] := by cases args; simp_all
  obtain ⟨rfl, rfl⟩ := trodVars_none hV
  obtain ⟨b0, s0, g0⟩ := open_bytes (hval 0 25 v0 rfl rfl) h0
  have e0 := bytes_reach hsz (j := 0) rfl rfl g0
  clear hA0
  simp only [List.append_nil] at hW'
  have hl : laidMet Tryd.prog Rows.frameDecodesRow.laid W := hL
  obtain ⟨Z, hg⟩ := zip_of_mem hl (by simp [Rows.frameDecodesRow])
  have hreads : ∀ g ∈ ([0, 1, 2, 3, 4, 5, 6, 7, 8, 9, 10, 11, 12, 13, 14, 17, 18, 19, 20, 21, 22, 23, 24, 25] : List Nat), ErrRead W g := by
    intro g hg
    simp only [List.mem_cons, List.not_mem_nil, or_false] at hg
    rcases hg with rfl | rfl | rfl | rfl | rfl | rfl | rfl | rfl | rfl | rfl | rfl | rfl | rfl | rfl | rfl | rfl | rfl | rfl | rfl | rfl | rfl | rfl | rfl | rfl
    · exact read0 hl (by simp [Rows.frameDecodesRow])
    · exact read1 hl (by simp [Rows.frameDecodesRow])
    · exact read2 hl (by simp [Rows.frameDecodesRow])
    · exact read3 hl (by simp [Rows.frameDecodesRow])
    · exact read4 hl (by simp [Rows.frameDecodesRow])
    · exact read5 hl (by simp [Rows.frameDecodesRow])
    · exact read6 hl (by simp [Rows.frameDecodesRow])
    · exact read7 hl (by simp [Rows.frameDecodesRow])
    · exact read8 hl (by simp [Rows.frameDecodesRow])
    · exact read9 hl (by simp [Rows.frameDecodesRow])
    · exact read10 hl (by simp [Rows.frameDecodesRow])
    · exact read11 hl (by simp [Rows.frameDecodesRow])
    · exact read12 hl (by simp [Rows.frameDecodesRow])
    · exact read13 hl (by simp [Rows.frameDecodesRow])
    · exact read14 hl (by simp [Rows.frameDecodesRow])
    · exact read17 hl (by simp [Rows.frameDecodesRow])
    · exact read18 hl (by simp [Rows.frameDecodesRow])
    · exact read19 hl (by simp [Rows.frameDecodesRow])
    · exact read20 hl (by simp [Rows.frameDecodesRow])
    · exact read21 hl (by simp [Rows.frameDecodesRow])
    · exact read22 hl (by simp [Rows.frameDecodesRow])
    · exact read23 hl (by simp [Rows.frameDecodesRow])
    · exact read24 hl (by simp [Rows.frameDecodesRow])
    · exact read25 hl (by simp [Rows.frameDecodesRow])
  obtain ⟨E, hE⟩ := errs_of_reads hreads (by decide +kernel)
  have hg2 := World.block_lt_of_cell? W _ (hE.cell 25 (by decide))
  simp only at hg2
  refine (walk W Z E hE (by omega) _ b0 s0 (by omega)).mono fun e W' ⟨he, hb⟩ => ?_
  subst he
  exact ⟨_, rfl, law_post hW' rfl rfl rfl (by kernel_rfl) hb⟩

noncomputable def laidWorld (os : Os) : World := World.doorLaid Tryd.prog 475 os
noncomputable def wargs : Array Value := #[.slice none 0 0]
theorem laid_met (os : Os) : laidMetH Tryd.prog Rows.frameDecodesRow.laid ((laidWorld os).forCall (fun _ _ => 0) ⟨#[], wargs, []⟩).memory :=
  laidMetH_of_parts3 (fuel := 8) (laidMet_of_run' 8 (by kernel_rfl) (by kernel_rfl)) (by kernel_rfl) (by kernel_rfl)
theorem reads (os : Os) {H : Type} (enc : TypeId × Value → H) : ∃ places, DataW.whole enc Tryd.prog ((laidWorld os).forCall (fun _ _ => 0) ⟨#[], wargs, []⟩).memory Tryd.f9.params.toList Rows.frameDecodesSpec.vars false wargs.toList 8 = some ([.nil], [], places) :=
  ⟨[], by kernel_rfl⟩

set_option maxRecDepth 100000 in
theorem lifted (os : Os) (started : os.Started) (H : Type) (enc : TypeId × Value → H) (F : Stop.Interp) :
    ReturnsInHanded {} Tryd.checked os 9 .any ((OpenSpec.ofChange Rows.frameDecodesSpec).preRow enc Tryd.prog Tryd.f9 Rows.frameDecodesRow.domain false Rows.frameDecodesRow.laid) (((OpenSpec.ofChange Rows.frameDecodesSpec).at F).post enc Tryd.prog Tryd.f9 false true false false) := by
  obtain ⟨places, hx⟩ := reads os enc
  refine returnsInHanded_of_row (C := Tryd.checked) (s := OpenSpec.ofChange Rows.frameDecodesSpec) own started (by kernel_rfl) Tryd.func9
    (witness_row_atRef (enc := enc) (C := Tryd.checked) false (laidWorld os) wargs rfl (by kernel_rfl) (by kernel_rfl) (by kernel_rfl)
      (OpenSpec.preRow_of_cond 8 hx (by kernel_rfl) (fun k hk => by cases hk) (by kernel_rfl) (laid_met os))) ?_
  intro W base args ds gs before hval hW _ _ hsz hL _ _
  exact contract H enc W base args ds gs before hval hW hL hsz

theorem fact0 : (Rows.frameDecodesRow.wf (OpenSpec.ofChange (OpenSpec.ofChange Rows.frameDecodesSpec).bare)) = true := by kernel_rfl
theorem fact3 : (Tryd.f9.params.all (Tryd.prog.readableRec ·)) = true := by kernel_rfl
theorem fact4 : (namedTie Tryd.prog Rows.frameDecodesRow.named (OpenSpec.ofChange Rows.frameDecodesSpec).bare.vars) = true := by kernel_rfl
theorem fact5 : ((Rows.frameDecodesRow.stops == [])) = true := by kernel_rfl
theorem fact7 : ((Rows.frameDecodesRow.knobs == [])) = true := by kernel_rfl
theorem fact9 : ((Rows.frameDecodesRow.inPlace == Tryd.prog.inPlace 9)) = true := by kernel_rfl
theorem fact10 : ((Rows.frameDecodesRow.unfollowed == Tryd.prog.unfollowed 9)) = true := by kernel_rfl
theorem fact11 : ((Rows.frameDecodesRow.recurses == Tryd.prog.recurses 9)) = true := by kernel_rfl
theorem fact12 : ((Rows.frameDecodesRow.named == Tryd.prog.varsNamed 9)) = true := by kernel_rfl
theorem fact13 : ((Rows.frameDecodesRow.maps == (Tryd.f9.params.toList ++ (OpenSpec.ofChange Rows.frameDecodesSpec).bare.plain.varTypes Tryd.prog).any (Tryd.prog.mapsRec ·))) = true := by kernel_rfl
theorem fact14 : ((Rows.frameDecodesRow.ifaces == (Tryd.f9.params.toList ++ (OpenSpec.ofChange Rows.frameDecodesSpec).bare.plain.varTypes Tryd.prog).any (Tryd.prog.ifacesRec ·))) = true := by kernel_rfl
theorem fact15 : ((Rows.frameDecodesRow.mapsOut == Tryd.prog.mapsAmong Tryd.f9.resultTypes.toList)) = true := by kernel_rfl
theorem fact16 : ((Rows.frameDecodesRow.loops == (Tryd.f9.params.toList ++ (OpenSpec.ofChange Rows.frameDecodesSpec).bare.plain.varTypes Tryd.prog).any (Tryd.prog.loopsFrom ·))) = true := by kernel_rfl
theorem fact17 : ((Rows.frameDecodesRow.wideKeys == (Tryd.f9.params.toList ++ (OpenSpec.ofChange Rows.frameDecodesSpec).bare.plain.varTypes Tryd.prog ++ Tryd.f9.resultTypes.toList).any (Tryd.prog.wideKeysFrom ·))) = true := by kernel_rfl
theorem fact18 : ((OpenSpec.ofChange Rows.frameDecodesSpec).bare.vars.all (Tryd.prog.varReadable ·)) = true := by kernel_rfl
theorem fact19 : (Tryd.f9.resultTypes.all (fun t => Tryd.prog.readableRec t && decide (t < Tryd.prog.types.size))) = true := by kernel_rfl
theorem fact20 : ((Rows.frameDecodesRow.ifacesOut == Tryd.f9.resultTypes.toList.any (Tryd.prog.ifacesRec ·))) = true := by kernel_rfl
theorem fact21 : ((Rows.frameDecodesRow.loopsOut == Tryd.f9.resultTypes.toList.any (Tryd.prog.loopsFrom ·))) = true := by kernel_rfl
theorem fact22 : ((Rows.frameDecodesRow.plainKeys == Tryd.prog.plainKeys)) = true := by rw [Tryd.keys]; kernel_rfl
theorem fact23 : (Rows.frameDecodesRow.shortTexts.isNone) = true := by kernel_rfl
theorem fact26 : ((Rows.frameDecodesRow.lifted == Tryd.prog.liftsFinal)) = true := by rw [Tryd.lifts]; kernel_rfl
theorem fact27 : ((Tryd.prog.make == some Rows.frameDecodesRow.make)) = true := by rw [Tryd.makes]; kernel_rfl
theorem fact29 : ((Rows.frameDecodesRow.pinned == Rows.frameDecodesRow.pinnedBy)) = true := by kernel_rfl
theorem fact30 : ((Rows.frameDecodesRow.veiled == (Tryd.f9.params.toList ++ (OpenSpec.ofChange Rows.frameDecodesSpec).bare.plain.varTypes Tryd.prog ++ Tryd.f9.resultTypes.toList).any (Tryd.prog.veiledRec ·))) = true := by kernel_rfl
theorem fact31 : (Rows.frameDecodesRow.veiledFits Tryd.prog Tryd.f9.params.toList (Tryd.f9.params.toList ++ (OpenSpec.ofChange Rows.frameDecodesSpec).bare.plain.varTypes Tryd.prog ++ Tryd.f9.resultTypes.toList)) = true := by kernel_rfl
theorem closed : joinedFacts Tryd.prog 9 Tryd.f9 (OpenSpec.ofChange Rows.frameDecodesSpec).bare Rows.frameDecodesRow = true :=
  facts_of fact0 Tryd.laidOut Tryd.rowed fact3 fact4 fact5 Tryd.noStops fact7 Tryd.noKnobs fact9 fact10 fact11 fact12 fact13 fact14 fact15 fact16 fact17 fact18 fact19 fact20 fact21 fact22 fact23 Tryd.heard Tryd.mayEnter fact26 fact27 (by kernel_rfl) fact29 fact30 fact31
theorem named : Tryd.prog.funcNamed Rows.frameDecodesRow.func = some 9 := by kernel_rfl
theorem instanced : Tryd.f9.isInstance Tryd.prog Rows.frameDecodesRow.origin Rows.frameDecodesRow.targs := of_decide_eq_true (by kernel_rfl)
theorem wrapped : Tryd.f9.isWrapper Tryd.prog Rows.frameDecodesRow.wrapper Rows.frameDecodesRow.mainSum := by unfold Func.isWrapper; first | (rw [if_pos (by decide +kernel)]; kernel_rfl) | (rw [if_neg (by decide +kernel)]; exact ⟨rfl, rfl⟩)
theorem said : Rows.FrameDecodesSaid :=
  OpenClaim.holds_of_cond 9 Tryd.f9 rfl rfl rfl rfl rfl rfl rfl ⟨rfl, rfl, rfl, rfl, rfl⟩ rfl rfl rfl rfl rfl named Tryd.func9 closed
    instanced wrapped
    (fun os started H enc _ F => by rw [OpenClaim.pre_eq_preRow]; exact lifted os started H enc F)

theorem plain (f : FuncId) (fn : Func) (hf : Tryd.pinned.checked.prog.funcNamed "concord/concordlaw02.FrameDecodes" = some f) (hfn : Tryd.pinned.checked.prog.funcs[f]? = some fn) :
    true = Tryd.pinned.checked.prog.looks [] ∧ ∀ (j : Nat) t, fn.params[j]? = some t → Tryd.pinned.checked.prog.wantsStandIn t = false := by
  obtain rfl : f = 9 := Option.some.inj ((show Tryd.prog.funcNamed "concord/concordlaw02.FrameDecodes" = some 9 by kernel_rfl).symm.trans hf) |>.symm
  obtain rfl : fn = Tryd.f9 := (Option.some.inj (Tryd.func9.symm.trans hfn)).symm
  have hall : Tryd.f9.params.toList.all (fun t => !Tryd.pinned.checked.prog.wantsStandIn t) = true := by kernel_rfl
  refine ⟨by kernel_rfl, fun j t ht => ?_⟩
  have := List.all_eq_true.1 hall t (by simpa using Array.mem_of_getElem? ht)
  simpa using this

/-- THE CARD -/
theorem card : Rows.FrameDecodesCardSaid :=
  Claim7.holds_tied_plain_at .later [] _ _ _ _ said (fun _ h => by cases h) (by kernel_rfl) (fun _ h => by cases h) frameDecodes_row_tie rfl ⟨rfl, rfl⟩ (by kernel_rfl) rfl plain (by kernel_rfl)
end Go.Proofs.YtgebekklkodpaaaDoor.frameDecodes
