/- Proved: for every two sums a, b and every two ints n, m, FrameSteps returns true (Join over n bytes and then over m is Join over both, wherever n + m is an int; and Join over n bytes tells one sum from every other), and nothing that lay in memory ahead of the call has changed. Conditions: the package variables that the row lists hold what their initialisers lay; the card ties that to the text. -/
import Derived.Test.YtgebekklkodpaaaDoorLives
import Derived.Test.YtgebekklkodpaaaDoorLawJoins
import Derived.Test.YtgebekklkodpaaaDoorOpen
import Derived.Test.YtgebekklkodpaaaDoorTies
import Derived.Deep.DeepWitnessRowRef
namespace Go.Proofs.YtgebekklkodpaaaDoor.frameSteps
open Go.ChangeShapes Go.WideShapes Go.ChangeAt Go.RowKit Go.Proofs.YtgebekklkodpaaaDoor


def join (a b n : Nat) : Nat := Crc.zeros Crc.polyZip n a ^^^ b
theorem join_lt {a b : Nat} (n : Nat) (ha : a < 4294967296) (hb : b < 4294967296) : join a b n < 4294967296 := Nat.xor_lt_two_pow (n := 32) (Crc.zeros_lt n (by decide) ha) hb
theorem join_join (a b n m : Nat) : join (join a 0 n) b m = join a b (n + m) := by
  unfold join
  rw [Nat.xor_zero, Crc.zeros_add]
theorem join_inj {a b n : Nat} (ha : a < 4294967296) (hb : b < 4294967296) (h : join a 0 n = join b 0 n) : a = b := by
  unfold join at h
  rw [Nat.xor_zero, Nat.xor_zero] at h
  exact Crc.zeros_inj n (by decide) (by decide) ha hb h
theorem join_nat (w : World) (Z : Zip w) (a b n : Nat) (ha : a < 4294967296) (hb : b < 4294967296) (hn : n ≤ 9223372036854775807) (hg : 16 < w.heap.size) :
    Calls Tryd.prog 21 #[.int .u32 a, .int .u32 b, .int .i64 n] w fun e w' => e = .returned (.int .u32 (join a b n : Nat)) ∧ Below w.heap.size w w' := by
  have h := join_any w Z a b n ha hb (by omega) hg
  rw [Int.toNat_natCast] at h
  exact h

theorem step_join (w0 w : World) (HZ : Hid (Zip w0)) (hg : 16 < w0.heap.size) (HB : Hid (Below w0.heap.size w0 w)) (a b n : Nat) (ha : a < 4294967296) (hb : b < 4294967296) (hn : n ≤ 9223372036854775807) :
    Calls Tryd.prog 21 #[.int .u32 a, .int .u32 b, .int .i64 n] w fun e w' => e = .returned (.int .u32 (join a b n : Nat)) ∧ Hid (Below w0.heap.size w0 w') := by
  have hs := HB.out.size
  refine (join_nat w (zip_below HZ.out HB.out hg) a b n ha hb hn (by omega)).mono ?_
  rintro e w' ⟨he, h⟩
  exact ⟨he, hide (HB.out.trans (h.mono hs))⟩

theorem step_join2 (w0 w : World) (HZ : Hid (Zip w0)) (hg : 16 < w0.heap.size) (HB : Hid (Below w0.heap.size w0 w)) (a b n m : Nat) (ha : a < 4294967296) (hb : b < 4294967296) (hn : n + m ≤ 9223372036854775807) :
    Calls Tryd.prog 21 #[.int .u32 a, .int .u32 b, .int .i64 ((n : Int) + m)] w fun e w' => e = .returned (.int .u32 (join (join a 0 n) b m : Nat)) ∧ Hid (Below w0.heap.size w0 w') := by
  have h := step_join w0 w HZ hg HB a b (n + m) ha hb hn
  rw [Int.natCast_add, ← join_join] at h
  exact h

set_option maxRecDepth 100000 in
set_option maxHeartbeats 4000000 in
theorem walk_any (w : World) (Z : Zip w) (hg : 16 < w.heap.size) (a b : Nat) (n m : Int) (ha : a < 4294967296) (hb : b < 4294967296)
    (h : (∃ i j : Nat, n = i ∧ m = j ∧ i ≤ 4611686018427387903 ∧ j ≤ 4611686018427387903) ∨ n < 0 ∨ (¬ n < 0 ∧ m < 0) ∨ (¬ n < 0 ∧ ¬ m < 0 ∧ 4611686018427387903 < n) ∨ (¬ n < 0 ∧ ¬ m < 0 ∧ ¬ 4611686018427387903 < n ∧ 4611686018427387903 < m)) :
    Calls Tryd.prog 8 #[.agg #[.int .u32 a, .int .u32 b, .int .i64 n, .int .i64 m]] w fun e w' => e = .returned (.bool true) ∧ Below w.heap.size w w' := by
  have HZ := hide Z
  have H := hide h
  clear Z h
  go_enter Tryd.func8, Tryd.ntmps8
  go_wp2_with fail
  have hb0 := (Below.refl w.heap.size w).alloc (Nat.le_refl _) (.cells #[.int .u32 a, .int .u32 b, .int .i64 n, .int .i64 m] 44)
  have HB0 := hide hb0
  clear hb0
  go_quiet (fail)
  go_wp2_with fail
  have HB1 := hide (below_drewN HB0.out nq)
  clear HB0
  generalize (w.alloc (.cells #[.int .u32 a, .int .u32 b, .int .i64 n, .int .i64 m] 44)).drewN nq = w1 at HB1
  have hs1 := HB1.out.size
  refine (frameJoins.join_79 w1 (zip_below HZ.out HB1.out hg) (by omega) 0 (by omega)).mono ?_
  rintro e w2 ⟨rfl, hb2⟩
  have HB2 := hide (HB1.out.trans (hb2.mono hs1))
  clear HB1 hb2 hs1
  have hs2 := HB2.out.size
  go_wp2_with fail
  refine (lives_any w2 (zip_below HZ.out HB2.out hg) (by omega)).mono ?_
  rintro e w3 ⟨rfl, hb3⟩
  have HB3 := hide (HB2.out.trans (hb3.mono hs2))
  clear HB2 hb3 hs2
  rcases H.out with ⟨i, j, rfl, rfl, hi, hj⟩ | h | ⟨h1, h2⟩ | ⟨h1, h2, h3⟩ | ⟨h1, h2, h3, h4⟩
  · have f1 : ¬ ((i : Int) < 0) := by omega
    have f2 : ¬ ((j : Int) < 0) := by omega
    have f3 : ¬ (4611686018427387903 < (i : Int)) := by omega
    have f4 : ¬ (4611686018427387903 < (j : Int)) := by omega
    have lj := fun x y (hx : x < 4294967296) (hy : y < 4294967296) => join_lt (a := x) (b := y) i hx hy
    go_wp2_with fail
    refine (step_join w w3 HZ hg HB3 a 0 i ha (by omega) (by omega)).mono ?_
    rintro e w4 ⟨rfl, HB4⟩
    go_wp2_with fail
    refine (step_join w w4 HZ hg HB4 (join a 0 i) b j (lj _ _ ha (by omega)) hb (by omega)).mono ?_
    rintro e w5 ⟨rfl, HB5⟩
    have hw : IntKind.i64.wrap ((i : Int) + j) = ((i + j : Nat) : Int) := by rw [IntKind.wrap_i64]; omega
    go_wp2_with fail
    refine (step_join2 w w5 HZ hg HB5 a b i j ha hb (by omega)).mono ?_
    rintro e w6 ⟨rfl, HB6⟩
    clear HB5 HB4 hw
    generalize hq : join (join a 0 i) b j = q
    by_cases hab : a = b
    · subst hab
      go_wp2
      go_ret
      exact ⟨rfl, HB6.out⟩
    · have hab2 : ((a : Int) = b) = False := by simp; omega
      have hne : join a 0 i ≠ join b 0 i := fun h => hab (join_inj ha hb h)
      clear hq
      go_wp2_with fail
      refine (step_join w w6 HZ hg HB6 a 0 i ha (by omega) (by omega)).mono ?_
      rintro e w7 ⟨rfl, HB7⟩
      go_wp2_with fail
      refine (step_join w w7 HZ hg HB7 b 0 i hb (by omega) (by omega)).mono ?_
      rintro e w8 ⟨rfl, HB8⟩
      generalize join a 0 i = q1 at hne
      generalize join b 0 i = q2 at hne
      have hne2 : ((q1 : Int) = q2) = False := by simp; omega
      go_wp2
      go_ret
      exact ⟨by simp; right; omega, HB8.out⟩
  · go_wp2
    go_ret
    exact ⟨rfl, HB3.out⟩
  · go_wp2
    go_ret
    exact ⟨rfl, HB3.out⟩
  · go_wp2
    go_ret
    exact ⟨rfl, HB3.out⟩
  · go_wp2
    go_ret
    exact ⟨rfl, HB3.out⟩
theorem walk (w : World) (Z : Zip w) (hg : 16 < w.heap.size) (a b : Nat) (n m : Int) (ha : a < 4294967296) (hb : b < 4294967296) :
    Calls Tryd.prog 8 #[.agg #[.int .u32 a, .int .u32 b, .int .i64 n, .int .i64 m]] w fun e w' => e = .returned (.bool true) ∧ Below w.heap.size w w' := by
  refine walk_any w Z hg a b n m ha hb ?_
  by_cases h1 : n < 0
  · exact .inr (.inl h1)
  · by_cases h2 : m < 0
    · exact .inr (.inr (.inl ⟨h1, h2⟩))
    · by_cases h3 : 4611686018427387903 < n
      · exact .inr (.inr (.inr (.inl ⟨h1, h2, h3⟩)))
      · by_cases h4 : 4611686018427387903 < m
        · exact .inr (.inr (.inr (.inr ⟨h1, h2, h3, h4⟩)))
        · exact .inl ⟨n.toNat, m.toNat, by omega, by omega, by omega, by omega⟩

theorem c44 : Tryd.prog.cellsOf 44 = 4 := by kernel_rfl
theorem c3 : Tryd.prog.cellsOf 3 = 1 := by kernel_rfl

/-- a struct of two words and two ints -/
theorem open4 {H : Type} {enc : TypeId × Value → H} {P : Program} {T U I : TypeId} {W : World} {base b0 : Nat} {spare : Nat → Bool} {held : Bool} {r : Reach} {f0 f1 f2 f3 : Field} {v : Value} {d : DataW H} {p : List MemPlace}
    (hT : P.underlying T = some (.struct #[f0, f1, f2, f3])) (hU : P.underlying U = some (.int .u32)) (hI : P.underlying I = some (.int .i64))
    (cT : P.cellsOf T = 4) (cU : P.cellsOf U = 1) (cI : P.cellsOf I = 1)
    (t0 : f0.type = U) (t1 : f1.type = U) (t2 : f2.type = I) (t3 : f3.type = I) (o0 : f0.offset = 0) (o1 : f1.offset = 1) (o2 : f2.offset = 2) (o3 : f3.offset = 3)
    (hv : Value.okWide P W r b0 T v) (h : DataW.Trod enc P W base spare held T v d p) :
    ∃ a b n m : Int, v = .agg #[.int .u32 a, .int .u32 b, .int .i64 n, .int .i64 m] ∧ (Lit.int .u32 a).wf = true ∧ (Lit.int .u32 b).wf = true := by
  obtain ⟨cs, rfl, hsz⟩ := okWide_struct hT hv
  rw [cT] at hsz
  obtain ⟨fuel, hf⟩ := h
  obtain ⟨xs, n, _, _, _, hlen, hall⟩ := DataW.trod_struct hT hf
  obtain ⟨l⟩ := cs
  match l, hsz, xs, hlen with
  | [v0, v1, v2, v3], _, [y0, y1, y2, y3], _ =>
    have e0 := hall 0 f0 rfl
    have e1 := hall 1 f1 rfl
    have e2 := hall 2 f2 rfl
    have e3 := hall 3 f3 rfl
    simp only [t0, t1, t2, t3, o0, o1, o2, o3, cU, cI, Value.cells, List.drop, List.take, List.getElem?_cons_zero, List.getElem?_cons_succ] at e0 e1 e2 e3
    obtain ⟨a, h0, _, w0⟩ := DataW.trod_int hU e0
    obtain ⟨b, h1, _, w1⟩ := DataW.trod_int hU e1
    obtain ⟨n, h2, _, w2⟩ := DataW.trod_int hI e2
    obtain ⟨m, h3, _, w3⟩ := DataW.trod_int hI e3
    simp only [List.cons.injEq, and_true] at h0 h1 h2 h3
    subst h0 h1 h2 h3
    exact ⟨a, b, n, m, rfl, w0, w1⟩

set_option maxRecDepth 100000 in
theorem open_steps {H : Type} {enc : TypeId × Value → H} {W : World} {base : Nat} {v : Value} {d : DataW H} {p : List MemPlace}
    (hv : Value.okWide Tryd.prog W .any base 44 v) (h : DataW.Trod enc Tryd.prog W 0 (fun _ => true) true 44 v d p) :
    ∃ a b n m : Int, v = .agg #[.int .u32 a, .int .u32 b, .int .i64 n, .int .i64 m] ∧ (Lit.int .u32 a).wf = true ∧ (Lit.int .u32 b).wf = true :=
  open4 Tryd.underlying44 Tryd.underlying22 Tryd.underlying3 c44 c22 c3 rfl rfl rfl rfl rfl rfl rfl rfl hv h

/-! the frame, by program -/
set_option maxRecDepth 100000 in
theorem contract (H : Type) (enc : TypeId × Value → H) (W : World) (base : Nat) (args : Array Value) (ds gs : List (DataW H)) (before : List MemPlace)
    (hval : ∀ (j : Nat) t v, Tryd.f8.params[j]? = some t → args[j]? = some v → Value.okWide Tryd.prog W .any base t v)
    (hW : DataW.Whole enc Tryd.prog Tryd.f8.params.toList Rows.frameStepsSpec.vars false W args.toList ds gs before) (hL : laidMetH Tryd.prog Rows.frameStepsRow.laid W)
    (hsz : (DataW.weightsEach Tryd.prog (Tryd.f8.params.toList ++ []) (ds ++ gs)).all (· ≤ reachBytes) = true) :
    Calls Tryd.prog 8 args W fun e W' => ∃ v, e = .returned v ∧ Rows.frameStepsSpec.post enc Tryd.prog Tryd.f8 false true false false W args v W' := by
  have hW' := hW
  obtain ⟨p, q, hA0, hV, rfl, hfz, hnd⟩ := hW
  have hA : DataW.TrodAll enc Tryd.prog W 0 (fun _ => true) true Tryd.f8.params.toList args.toList ds p := hA0
  rw [Tryd.params8] at hA hval hsz
  obtain ⟨v0, vs0, d0, ds0, p0, q0, hargs, rfl, rfl, h0, r0⟩ := trodAll_cons hA
  obtain ⟨rfl, rfl, rfl⟩ := trodAll_nil r0
  obtain rfl : args = #[v0] := by cases args; simp_all
  obtain ⟨rfl, rfl⟩ := trodVars_none hV
  obtain ⟨x0, y0, n0, m0, rfl, w0, z0⟩ := open_steps (hval 0 44 v0 rfl rfl) h0
  obtain ⟨l0, u0⟩ := bounds_u32 w0
  obtain ⟨l0a, u0a⟩ := bounds_u32 z0
  obtain ⟨a0, rfl⟩ := Int.eq_ofNat_of_zero_le l0
  obtain ⟨b0, rfl⟩ := Int.eq_ofNat_of_zero_le l0a
  clear hA0
  simp only [List.append_nil] at hW'
  have hl : laidMet Tryd.prog Rows.frameStepsRow.laid W := hL
  obtain ⟨Z, hg⟩ := zip_of_mem hl (by simp [Rows.frameStepsRow])
  have hreads : ∀ g ∈ ([0] : List Nat), ErrRead W g := by
    intro g hg
    simp only [List.mem_cons, List.not_mem_nil, or_false] at hg
    rcases hg with rfl
    · exact read0 hl (by simp [Rows.frameStepsRow])
  obtain ⟨E, hE⟩ := errs_of_reads hreads (by decide +kernel)
  have hg2 := World.block_lt_of_cell? W _ (hE.cell 0 (by decide))
  simp only at hg2
  refine (walk W Z hg a0 b0 _ _ (by omega) (by omega)).mono fun e W' ⟨he, hb⟩ => ?_
  subst he
  exact ⟨_, rfl, law_post hW' rfl rfl rfl (by kernel_rfl) hb⟩

noncomputable def laidWorld (os : Os) : World := World.doorLaid Tryd.prog 475 os
noncomputable def wargs : Array Value := #[.agg #[.int .u32 0, .int .u32 0, .int .i64 0, .int .i64 0]]
theorem laid_met (os : Os) : laidMetH Tryd.prog Rows.frameStepsRow.laid ((laidWorld os).forCall (fun _ _ => 0) ⟨#[], wargs, []⟩).memory :=
  laidMetH_of_parts3 (fuel := 8) (laidMet_of_run' 8 (by kernel_rfl) (by kernel_rfl)) (by kernel_rfl) (by kernel_rfl)
theorem reads (os : Os) {H : Type} (enc : TypeId × Value → H) : ∃ places, DataW.whole enc Tryd.prog ((laidWorld os).forCall (fun _ _ => 0) ⟨#[], wargs, []⟩).memory Tryd.f8.params.toList Rows.frameStepsSpec.vars false wargs.toList 8 = some ([.agg [.lit (.int .u32 0), .lit (.int .u32 0), .lit (.int .i64 0), .lit (.int .i64 0)]], [], places) :=
  ⟨[], by kernel_rfl⟩

set_option maxRecDepth 100000 in
theorem lifted (os : Os) (started : os.Started) (H : Type) (enc : TypeId × Value → H) (F : Stop.Interp) :
    ReturnsInHanded {} Tryd.checked os 8 .any ((OpenSpec.ofChange Rows.frameStepsSpec).preRow enc Tryd.prog Tryd.f8 Rows.frameStepsRow.domain false Rows.frameStepsRow.laid) (((OpenSpec.ofChange Rows.frameStepsSpec).at F).post enc Tryd.prog Tryd.f8 false true false false) := by
  obtain ⟨places, hx⟩ := reads os enc
  refine returnsInHanded_of_row (C := Tryd.checked) (s := OpenSpec.ofChange Rows.frameStepsSpec) own started (by kernel_rfl) Tryd.func8
    (witness_row_atRef (enc := enc) (C := Tryd.checked) false (laidWorld os) wargs rfl (by kernel_rfl) (by kernel_rfl) (by kernel_rfl)
      (OpenSpec.preRow_of_cond 8 hx (by kernel_rfl) (fun k hk => by cases hk) (by kernel_rfl) (laid_met os))) ?_
  intro W base args ds gs before hval hW _ _ hsz hL _ _
  exact contract H enc W base args ds gs before hval hW hL hsz

theorem fact0 : (Rows.frameStepsRow.wf (OpenSpec.ofChange (OpenSpec.ofChange Rows.frameStepsSpec).bare)) = true := by kernel_rfl
theorem fact3 : (Tryd.f8.params.all (Tryd.prog.readableRec ·)) = true := by kernel_rfl
theorem fact4 : (namedTie Tryd.prog Rows.frameStepsRow.named (OpenSpec.ofChange Rows.frameStepsSpec).bare.vars) = true := by kernel_rfl
theorem fact5 : ((Rows.frameStepsRow.stops == [])) = true := by kernel_rfl
theorem fact7 : ((Rows.frameStepsRow.knobs == [])) = true := by kernel_rfl
theorem fact9 : ((Rows.frameStepsRow.inPlace == Tryd.prog.inPlace 8)) = true := by kernel_rfl
theorem fact10 : ((Rows.frameStepsRow.unfollowed == Tryd.prog.unfollowed 8)) = true := by kernel_rfl
theorem fact11 : ((Rows.frameStepsRow.recurses == Tryd.prog.recurses 8)) = true := by kernel_rfl
theorem fact12 : ((Rows.frameStepsRow.named == Tryd.prog.varsNamed 8)) = true := by kernel_rfl
theorem fact13 : ((Rows.frameStepsRow.maps == (Tryd.f8.params.toList ++ (OpenSpec.ofChange Rows.frameStepsSpec).bare.plain.varTypes Tryd.prog).any (Tryd.prog.mapsRec ·))) = true := by kernel_rfl
theorem fact14 : ((Rows.frameStepsRow.ifaces == (Tryd.f8.params.toList ++ (OpenSpec.ofChange Rows.frameStepsSpec).bare.plain.varTypes Tryd.prog).any (Tryd.prog.ifacesRec ·))) = true := by kernel_rfl
theorem fact15 : ((Rows.frameStepsRow.mapsOut == Tryd.prog.mapsAmong Tryd.f8.resultTypes.toList)) = true := by kernel_rfl
theorem fact16 : ((Rows.frameStepsRow.loops == (Tryd.f8.params.toList ++ (OpenSpec.ofChange Rows.frameStepsSpec).bare.plain.varTypes Tryd.prog).any (Tryd.prog.loopsFrom ·))) = true := by kernel_rfl
theorem fact17 : ((Rows.frameStepsRow.wideKeys == (Tryd.f8.params.toList ++ (OpenSpec.ofChange Rows.frameStepsSpec).bare.plain.varTypes Tryd.prog ++ Tryd.f8.resultTypes.toList).any (Tryd.prog.wideKeysFrom ·))) = true := by kernel_rfl
theorem fact18 : ((OpenSpec.ofChange Rows.frameStepsSpec).bare.vars.all (Tryd.prog.varReadable ·)) = true := by kernel_rfl
theorem fact19 : (Tryd.f8.resultTypes.all (fun t => Tryd.prog.readableRec t && decide (t < Tryd.prog.types.size))) = true := by kernel_rfl
theorem fact20 : ((Rows.frameStepsRow.ifacesOut == Tryd.f8.resultTypes.toList.any (Tryd.prog.ifacesRec ·))) = true := by kernel_rfl
theorem fact21 : ((Rows.frameStepsRow.loopsOut == Tryd.f8.resultTypes.toList.any (Tryd.prog.loopsFrom ·))) = true := by kernel_rfl
theorem fact22 : ((Rows.frameStepsRow.plainKeys == Tryd.prog.plainKeys)) = true := by rw [Tryd.keys]; kernel_rfl
theorem fact23 : (Rows.frameStepsRow.shortTexts.isNone) = true := by kernel_rfl
theorem fact26 : ((Rows.frameStepsRow.lifted == Tryd.prog.liftsFinal)) = true := by rw [Tryd.lifts]; kernel_rfl
theorem fact27 : ((Tryd.prog.make == some Rows.frameStepsRow.make)) = true := by rw [Tryd.makes]; kernel_rfl
theorem fact29 : ((Rows.frameStepsRow.pinned == Rows.frameStepsRow.pinnedBy)) = true := by kernel_rfl
theorem fact30 : ((Rows.frameStepsRow.veiled == (Tryd.f8.params.toList ++ (OpenSpec.ofChange Rows.frameStepsSpec).bare.plain.varTypes Tryd.prog ++ Tryd.f8.resultTypes.toList).any (Tryd.prog.veiledRec ·))) = true := by kernel_rfl
theorem fact31 : (Rows.frameStepsRow.veiledFits Tryd.prog Tryd.f8.params.toList (Tryd.f8.params.toList ++ (OpenSpec.ofChange Rows.frameStepsSpec).bare.plain.varTypes Tryd.prog ++ Tryd.f8.resultTypes.toList)) = true := by kernel_rfl
theorem closed : joinedFacts Tryd.prog 8 Tryd.f8 (OpenSpec.ofChange Rows.frameStepsSpec).bare Rows.frameStepsRow = true :=
  facts_of fact0 Tryd.laidOut Tryd.rowed fact3 fact4 fact5 Tryd.noStops fact7 Tryd.noKnobs fact9 fact10 fact11 fact12 fact13 fact14 fact15 fact16 fact17 fact18 fact19 fact20 fact21 fact22 fact23 Tryd.heard Tryd.mayEnter fact26 fact27 (by kernel_rfl) fact29 fact30 fact31
theorem named : Tryd.prog.funcNamed Rows.frameStepsRow.func = some 8 := by kernel_rfl
theorem instanced : Tryd.f8.isInstance Tryd.prog Rows.frameStepsRow.origin Rows.frameStepsRow.targs := of_decide_eq_true (by kernel_rfl)
theorem wrapped : Tryd.f8.isWrapper Tryd.prog Rows.frameStepsRow.wrapper Rows.frameStepsRow.mainSum := by unfold Func.isWrapper; first | (rw [if_pos (by decide +kernel)]; kernel_rfl) | (rw [if_neg (by decide +kernel)]; exact ⟨rfl, rfl⟩)
theorem said : Rows.FrameStepsSaid :=
  OpenClaim.holds_of_cond 8 Tryd.f8 rfl rfl rfl rfl rfl rfl rfl ⟨rfl, rfl, rfl, rfl, rfl⟩ rfl rfl rfl rfl rfl named Tryd.func8 closed
    instanced wrapped
    (fun os started H enc _ F => by rw [OpenClaim.pre_eq_preRow]; exact lifted os started H enc F)

theorem plain (f : FuncId) (fn : Func) (hf : Tryd.pinned.checked.prog.funcNamed "concord/concordlaw02.FrameSteps" = some f) (hfn : Tryd.pinned.checked.prog.funcs[f]? = some fn) :
    true = Tryd.pinned.checked.prog.looks [] ∧ ∀ (j : Nat) t, fn.params[j]? = some t → Tryd.pinned.checked.prog.wantsStandIn t = false := by
  obtain rfl : f = 8 := Option.some.inj ((show Tryd.prog.funcNamed "concord/concordlaw02.FrameSteps" = some 8 by kernel_rfl).symm.trans hf) |>.symm
  obtain rfl : fn = Tryd.f8 := (Option.some.inj (Tryd.func8.symm.trans hfn)).symm
  have hall : Tryd.f8.params.toList.all (fun t => !Tryd.pinned.checked.prog.wantsStandIn t) = true := by kernel_rfl
  refine ⟨by kernel_rfl, fun j t ht => ?_⟩
  have := List.all_eq_true.1 hall t (by simpa using Array.mem_of_getElem? ht)
  simpa using this

/-- THE CARD -/
theorem card : Rows.FrameStepsCardSaid :=
  Claim7.holds_tied_plain_at .later [] _ _ _ _ said (fun _ h => by cases h) (by kernel_rfl) (fun _ h => by cases h) frameSteps_row_tie rfl ⟨rfl, rfl⟩ (by kernel_rfl) rfl plain (by kernel_rfl)
end Go.Proofs.YtgebekklkodpaaaDoor.frameSteps
