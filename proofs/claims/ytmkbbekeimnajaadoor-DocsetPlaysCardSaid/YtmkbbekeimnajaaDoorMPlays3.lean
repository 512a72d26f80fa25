/- texts of this proof, one behind the other: Nu Fr Tbl Opn Op -/
import Derived.Test.YtmkbbekeimnajaaDoorMPlays0
import Derived.Test.YtmkbbekeimnajaaDoorMPlays1
import Derived.Test.YtmkbbekeimnajaaDoorMPlays2
import Derived.Test.YtmkbbekeimnajaaDoorCards
import Derived.Test.YtmkbbekeimnajaaDoorTie
import Derived.ProofKit
import Derived.OpenShut
import Derived.Deep.DeepHandedRow
import Derived.LaidMore
import Derived.LaidHandle
import Derived.Stop.LaidErr
import Derived.SizedLaws
import Derived.Lib.LaidTab
import Derived.Deep.Slices
/-! Nu: the numbers of the errors; lists of numbers held against one another -/
namespace Go.Proofs.YtmkbbekeimnajaaDoor
open Go.RowKit Ds
def allErrs : List Nat := [0, 1, 2, 3, 4, 5, 6, 7, 8, 9, 10, 11, 12, 13, 14, 16, 17, 18, 19, 20, 21, 22, 23, 24]
theorem ids_lt {B : Nat} (h : 25 ≤ B) : ∀ g ∈ allErrs, g < B := by
  intro g hg
  simp only [allErrs, List.mem_cons, List.not_mem_nil, or_false] at hg
  omega
set_option maxRecDepth 100000 in
theorem num_range (w : World) (E : Nat → Addr) (h : Errs w E allErrs) : Calls Tryd.prog 31 #[.iface 153 (.pointer (some (E 0)))] w fun e w' => e = .returned (.int .i64 8) ∧ w = w' := by
  have c2 : w.cell? ⟨2, 0, none⟩ = some (.iface 153 (.pointer (some (E 2)))) := h.cell 2 (by decide)
  have e2 := h.eq_other 0 2 (by decide) (by decide) (by decide)
  have c3 : w.cell? ⟨3, 0, none⟩ = some (.iface 153 (.pointer (some (E 3)))) := h.cell 3 (by decide)
  have e3 := h.eq_other 0 3 (by decide) (by decide) (by decide)
  have c4 : w.cell? ⟨4, 0, none⟩ = some (.iface 153 (.pointer (some (E 4)))) := h.cell 4 (by decide)
  have e4 := h.eq_other 0 4 (by decide) (by decide) (by decide)
  have c5 : w.cell? ⟨5, 0, none⟩ = some (.iface 153 (.pointer (some (E 5)))) := h.cell 5 (by decide)
  have e5 := h.eq_other 0 5 (by decide) (by decide) (by decide)
  have c6 : w.cell? ⟨6, 0, none⟩ = some (.iface 153 (.pointer (some (E 6)))) := h.cell 6 (by decide)
  have e6 := h.eq_other 0 6 (by decide) (by decide) (by decide)
  have c7 : w.cell? ⟨7, 0, none⟩ = some (.iface 153 (.pointer (some (E 7)))) := h.cell 7 (by decide)
  have e7 := h.eq_other 0 7 (by decide) (by decide) (by decide)
  have c8 : w.cell? ⟨8, 0, none⟩ = some (.iface 153 (.pointer (some (E 8)))) := h.cell 8 (by decide)
  have e8 := h.eq_other 0 8 (by decide) (by decide) (by decide)
  have c0 : w.cell? ⟨0, 0, none⟩ = some (.iface 153 (.pointer (some (E 0)))) := h.cell 0 (by decide)
  have e0 := err_same w (E 0)
  generalize E 2 = a2 at *
  generalize E 3 = a3 at *
  generalize E 4 = a4 at *
  generalize E 5 = a5 at *
  generalize E 6 = a6 at *
  generalize E 7 = a7 at *
  generalize E 8 = a8 at *
  generalize E 0 = a0 at *
  clear h
  go_enter Tryd.func31, Tryd.ntmps31
  go_wp2_with fail
  go_ret
  exact ⟨rfl, rfl⟩
set_option maxRecDepth 100000 in
theorem num_size (w : World) (E : Nat → Addr) (h : Errs w E allErrs) : Calls Tryd.prog 31 #[.iface 153 (.pointer (some (E 9)))] w fun e w' => e = .returned (.int .i64 9) ∧ w = w' := by
  have c2 : w.cell? ⟨2, 0, none⟩ = some (.iface 153 (.pointer (some (E 2)))) := h.cell 2 (by decide)
  have e2 := h.eq_other 9 2 (by decide) (by decide) (by decide)
  have c3 : w.cell? ⟨3, 0, none⟩ = some (.iface 153 (.pointer (some (E 3)))) := h.cell 3 (by decide)
  have e3 := h.eq_other 9 3 (by decide) (by decide) (by decide)
  have c4 : w.cell? ⟨4, 0, none⟩ = some (.iface 153 (.pointer (some (E 4)))) := h.cell 4 (by decide)
  have e4 := h.eq_other 9 4 (by decide) (by decide) (by decide)
  have c5 : w.cell? ⟨5, 0, none⟩ = some (.iface 153 (.pointer (some (E 5)))) := h.cell 5 (by decide)
  have e5 := h.eq_other 9 5 (by decide) (by decide) (by decide)
  have c6 : w.cell? ⟨6, 0, none⟩ = some (.iface 153 (.pointer (some (E 6)))) := h.cell 6 (by decide)
  have e6 := h.eq_other 9 6 (by decide) (by decide) (by decide)
  have c7 : w.cell? ⟨7, 0, none⟩ = some (.iface 153 (.pointer (some (E 7)))) := h.cell 7 (by decide)
  have e7 := h.eq_other 9 7 (by decide) (by decide) (by decide)
  have c8 : w.cell? ⟨8, 0, none⟩ = some (.iface 153 (.pointer (some (E 8)))) := h.cell 8 (by decide)
  have e8 := h.eq_other 9 8 (by decide) (by decide) (by decide)
  have c0 : w.cell? ⟨0, 0, none⟩ = some (.iface 153 (.pointer (some (E 0)))) := h.cell 0 (by decide)
  have e0 := h.eq_other 9 0 (by decide) (by decide) (by decide)
  have c9 : w.cell? ⟨9, 0, none⟩ = some (.iface 153 (.pointer (some (E 9)))) := h.cell 9 (by decide)
  have e9 := err_same w (E 9)
  generalize E 2 = a2 at *
  generalize E 3 = a3 at *
  generalize E 4 = a4 at *
  generalize E 5 = a5 at *
  generalize E 6 = a6 at *
  generalize E 7 = a7 at *
  generalize E 8 = a8 at *
  generalize E 0 = a0 at *
  generalize E 9 = a9 at *
  clear h
  go_enter Tryd.func31, Tryd.ntmps31
  go_wp2_with fail
  go_ret
  exact ⟨rfl, rfl⟩
set_option maxRecDepth 100000 in
theorem num_corrupt (w : World) (E : Nat → Addr) (h : Errs w E allErrs) : Calls Tryd.prog 31 #[.iface 153 (.pointer (some (E 1)))] w fun e w' => e = .returned (.int .i64 10) ∧ w = w' := by
  have c2 : w.cell? ⟨2, 0, none⟩ = some (.iface 153 (.pointer (some (E 2)))) := h.cell 2 (by decide)
  have e2 := h.eq_other 1 2 (by decide) (by decide) (by decide)
  have c3 : w.cell? ⟨3, 0, none⟩ = some (.iface 153 (.pointer (some (E 3)))) := h.cell 3 (by decide)
  have e3 := h.eq_other 1 3 (by decide) (by decide) (by decide)
  have c4 : w.cell? ⟨4, 0, none⟩ = some (.iface 153 (.pointer (some (E 4)))) := h.cell 4 (by decide)
  have e4 := h.eq_other 1 4 (by decide) (by decide) (by decide)
  have c5 : w.cell? ⟨5, 0, none⟩ = some (.iface 153 (.pointer (some (E 5)))) := h.cell 5 (by decide)
  have e5 := h.eq_other 1 5 (by decide) (by decide) (by decide)
  have c6 : w.cell? ⟨6, 0, none⟩ = some (.iface 153 (.pointer (some (E 6)))) := h.cell 6 (by decide)
  have e6 := h.eq_other 1 6 (by decide) (by decide) (by decide)
  have c7 : w.cell? ⟨7, 0, none⟩ = some (.iface 153 (.pointer (some (E 7)))) := h.cell 7 (by decide)
  have e7 := h.eq_other 1 7 (by decide) (by decide) (by decide)
  have c8 : w.cell? ⟨8, 0, none⟩ = some (.iface 153 (.pointer (some (E 8)))) := h.cell 8 (by decide)
  have e8 := h.eq_other 1 8 (by decide) (by decide) (by decide)
  have c0 : w.cell? ⟨0, 0, none⟩ = some (.iface 153 (.pointer (some (E 0)))) := h.cell 0 (by decide)
  have e0 := h.eq_other 1 0 (by decide) (by decide) (by decide)
  have c9 : w.cell? ⟨9, 0, none⟩ = some (.iface 153 (.pointer (some (E 9)))) := h.cell 9 (by decide)
  have e9 := h.eq_other 1 9 (by decide) (by decide) (by decide)
  have c1 : w.cell? ⟨1, 0, none⟩ = some (.iface 153 (.pointer (some (E 1)))) := h.cell 1 (by decide)
  have e1 := err_same w (E 1)
  generalize E 2 = a2 at *
  generalize E 3 = a3 at *
  generalize E 4 = a4 at *
  generalize E 5 = a5 at *
  generalize E 6 = a6 at *
  generalize E 7 = a7 at *
  generalize E 8 = a8 at *
  generalize E 0 = a0 at *
  generalize E 9 = a9 at *
  generalize E 1 = a1 at *
  clear h
  go_enter Tryd.func31, Tryd.ntmps31
  go_wp2_with fail
  go_ret
  exact ⟨rfl, rfl⟩
theorem neq_ints {xs ys : List Int} (hl : xs.length = ys.length) (h : xs ≠ ys) : ∃ i x y, xs[i]? = some x ∧ ys[i]? = some y ∧ x ≠ y ∧ xs.take i = ys.take i := by
  induction xs generalizing ys with
  | nil => cases ys with
    | nil => exact absurd rfl h
    | cons y r => simp at hl
  | cons x l ih => cases ys with
    | nil => simp at hl
    | cons y r =>
      by_cases hxy : x = y
      · subst hxy
        obtain ⟨i, a, b, h1, h2, h3, h4⟩ := ih (by simpa using hl) (fun e => h (by rw [e]))
        exact ⟨i + 1, a, b, by simpa using h1, by simpa using h2, h3, by simpa using h4⟩
      · exact ⟨0, x, y, rfl, rfl, hxy, rfl⟩
set_option maxRecDepth 100000 in
set_option maxHeartbeats 2000000 in
/-- slices.Equal of numbers -/
theorem ints_equal (w : World) (a1 a2 : Option Addr) (c1 c2 : Nat) (xs ys : List Int) (h1 : Ints w (.slice a1 xs.length c1) xs) (h2 : Ints w (.slice a2 ys.length c2) ys) (hl : xs.length ≤ 1152921504606846976) :
    Calls Tryd.prog 23 #[.slice a1 xs.length c1, .slice a2 ys.length c2] w fun e w' => e = .returned (.bool (decide (xs = ys))) ∧ ∃ q, w' = w.drewN q := by
  have H1 := hide h1
  have H2 := hide h2
  clear h1 h2
  by_cases hn : xs.length = ys.length
  · have hni : ((xs.length : Int) == (ys.length : Int)) = true := by simp; omega
    have HN := hide hn
    rw [← hn]
    rw [← hn] at H2 hni
    clear hn
    obtain ⟨n, hnn⟩ : ∃ n, xs.length = n := ⟨_, rfl⟩
    have HNN := hide hnn
    rw [hnn] at H1 H2 hl hni ⊢
    clear hnn
    go_enter Tryd.func23, Tryd.ntmps23
    go_wp2_with fail
    go_loopw [13] (fun k wr => ∃ i d : Nat, k = .int .i64 (i : Nat) ∧ i ≤ n ∧ xs.take i = ys.take i ∧ wr = w.drewN d) (fun k _ => n - (intOf k).toNat)
    case atStart => exact ⟨0, 0, rfl, by omega, rfl, rfl⟩
    case round =>
      obtain ⟨i, d, rfl, hi, htk, rfl⟩ := hrel
      have HTK := hide htk
      clear htk
      by_cases hlt : i < n
      · obtain ⟨x, hx⟩ : ∃ x, xs[i]? = some x := ⟨_, List.getElem?_eq_getElem (by have := HNN.out; omega)⟩
        obtain ⟨y, hy⟩ : ∃ y, ys[i]? = some y := ⟨_, List.getElem?_eq_getElem (by have := HNN.out; have := HN.out; omega)⟩
        obtain ⟨ad1, rfl, hc1⟩ := ints_get H1.out hx
        obtain ⟨ad2, rfl, hc2⟩ := ints_get H2.out hy
        have hi1 : (i : Int) < (n : Int) := by omega
        have hc1 : (w.drewN d).cell? (ad1.add i) = some (.int .i64 x) := hc1
        have hc2 : (w.drewN d).cell? (ad2.add i) = some (.int .i64 y) := hc2
        generalize hwq : w.drewN d = wq at hc1 hc2 ⊢
        have HWQ := hide hwq
        have HX := hide hx
        have HY := hide hy
        clear hwq hx hy
        by_cases hxy : x = y
        · subst hxy
          have HT2 := hide (show xs.take (i + 1) = ys.take (i + 1) from by rw [List.take_add_one, List.take_add_one, HX.out, HY.out, HTK.out])
          go_wp2_with fail
          go_quiet (fail)
          go_wp2_with fail
          exact ⟨⟨i + 1, d + nq, by simp, by omega, HT2.out, by rw [← HWQ.out, World.drewN_drewN]⟩, by simp [intOf]; omega⟩
        · have hxi : (x == y) = false := by simpa using hxy
          have HNE := hide (show decide (xs = ys) = false from decide_eq_false (fun e => hxy (by
            have h3 := HX.out
            rw [e, HY.out] at h3
            exact (Option.some.inj h3).symm)))
          clear hxy
          go_wp2_with fail
          go_quiet (fail)
          go_wp2_with fail
          go_ret
          exact ⟨by rw [HNE.out]; rfl, d + nq, by rw [← HWQ.out, World.drewN_drewN]⟩
      · obtain rfl : i = n := by omega
        have HEQ := hide (show decide (xs = ys) = true from decide_eq_true (by
          have h3 := HTK.out
          rw [List.take_of_length_le (by have := HNN.out; omega), List.take_of_length_le (by have := HNN.out; have := HN.out; omega)] at h3
          exact h3))
        go_wp2_with fail
        go_ret
        exact ⟨by rw [HEQ.out]; rfl, d, rfl⟩
  · have hni : ((xs.length : Int) == (ys.length : Int)) = false := by simp; omega
    have HNE := hide (show decide (xs = ys) = false from decide_eq_false (fun e => hn (by rw [e])))
    clear hn
    go_enter Tryd.func23, Tryd.ntmps23
    go_wp2_with fail
    go_ret
    exact ⟨by rw [HNE.out]; rfl, 0, rfl⟩
end Go.Proofs.YtmkbbekeimnajaaDoor

/-! Fr: what the laws of the seat share: closed facts, the errors and the table off a row, the post -/
namespace Go.Proofs.YtmkbbekeimnajaaDoor
open Go Go.ChangeShapes Go.WideShapes Go.ChangeAt Go.RowKit Ds
theorem facts_of {P : Program} {f : FuncId} {fn : Func} {s : ChangeSpec} {c : OpenClaim}
    (k0 : (c.wf (OpenSpec.ofChange s)) = true)
    (k1 : (laidOutB P) = true)
    (k2 : (mapsRowed P) = true)
    (k3 : (fn.params.all (P.readableRec ·)) = true)
    (k4 : (namedTie P c.named s.vars) = true)
    (k5 : ((c.stops == [])) = true)
    (k6 : ((P.stops == [])) = true)
    (k7 : ((c.knobs == [])) = true)
    (k8 : ((P.stopKnobs == [])) = true)
    (k9 : ((c.inPlace == P.inPlace f)) = true)
    (k10 : ((c.unfollowed == P.unfollowed f)) = true)
    (k11 : ((c.recurses == P.recurses f)) = true)
    (k12 : ((c.named == P.varsNamed f)) = true)
    (k13 : ((c.maps == (fn.params.toList ++ s.plain.varTypes P).any (P.mapsRec ·))) = true)
    (k14 : ((c.ifaces == (fn.params.toList ++ s.plain.varTypes P).any (P.ifacesRec ·))) = true)
    (k15 : ((c.mapsOut == P.mapsAmong fn.resultTypes.toList)) = true)
    (k16 : ((c.loops == (fn.params.toList ++ s.plain.varTypes P).any (P.loopsFrom ·))) = true)
    (k17 : ((c.wideKeys == (fn.params.toList ++ s.plain.varTypes P ++ fn.resultTypes.toList).any (P.wideKeysFrom ·))) = true)
    (k18 : (s.vars.all (P.varReadable ·)) = true)
    (k19 : (fn.resultTypes.all (fun t => P.readableRec t && decide (t < P.types.size))) = true)
    (k20 : ((c.ifacesOut == fn.resultTypes.toList.any (P.ifacesRec ·))) = true)
    (k21 : ((c.loopsOut == fn.resultTypes.toList.any (P.loopsFrom ·))) = true)
    (k22 : ((c.plainKeys == P.plainKeys)) = true)
    (k23 : (c.shortTexts.isNone) = true)
    (k24 : (P.stopsHeard) = true)
    (k25 : (P.mayEnter) = true)
    (k26 : ((c.lifted == P.liftsFinal)) = true)
    (k27 : ((P.make == some c.make)) = true)
    (k28 : ((c.kinds == (if c.domain.isEmpty then [] else fn.params.toList.map fun t => match P.underlying t with | some (.int k) => some k | _ => none))) = true)
    (k29 : ((c.pinned == c.pinnedBy)) = true)
    (k30 : ((c.veiled == (fn.params.toList ++ s.plain.varTypes P ++ fn.resultTypes.toList).any (P.veiledRec ·))) = true)
    (k31 : (c.veiledFits P fn.params.toList (fn.params.toList ++ s.plain.varTypes P ++ fn.resultTypes.toList)) = true)
    : joinedFacts P f fn s c = true := by
  simp only [joinedFacts, Bool.and_eq_true]
  exact ⟨⟨⟨⟨⟨⟨⟨⟨⟨⟨⟨⟨⟨⟨⟨⟨⟨⟨⟨⟨⟨⟨⟨⟨⟨⟨⟨⟨⟨⟨⟨k0, k1⟩, k2⟩, k3⟩, k4⟩, k5⟩, k6⟩, k7⟩, k8⟩, k9⟩, k10⟩, k11⟩, k12⟩, k13⟩, k14⟩, k15⟩, k16⟩, k17⟩, k18⟩, k19⟩, k20⟩, k21⟩, k22⟩, k23⟩, k24⟩, k25⟩, k26⟩, k27⟩, k28⟩, k29⟩, k30⟩, k31⟩
theorem Tryd.laidOut : (laidOutB Tryd.prog) = true := by kernel_rfl
theorem Tryd.rowed : (mapsRowed Tryd.prog) = true := by kernel_rfl
theorem Tryd.noStops : ((Tryd.prog.stops == [])) = true := by kernel_rfl
theorem Tryd.noKnobs : ((Tryd.prog.stopKnobs == [])) = true := by kernel_rfl
theorem Tryd.heard : (Tryd.prog.stopsHeard) = true := by kernel_rfl
theorem Tryd.mayEnter : (Tryd.prog.mayEnter) = true := by kernel_rfl
theorem Tryd.keys : Tryd.prog.plainKeys = Rows.docsetItersRow.plainKeys := by kernel_rfl
theorem Tryd.lifts : Tryd.prog.liftsFinal = Rows.docsetItersRow.lifted := by kernel_rfl
theorem Tryd.makes : Tryd.prog.make = some Rows.docsetItersRow.make := by kernel_rfl
theorem own : ownKnob Tryd.prog.godebug = none := by kernel_rfl
theorem laidOut : laidOutB Tryd.prog = true := by kernel_rfl
theorem below_trodAll {H : Type} {enc : TypeId × Value → H} {P : Program} (hl : laidOutB P = true) {W W' : World} (hb : Below W.heap.size W W') (ts : List TypeId) : ∀ {vs : List Value} {ds : List (DataW H)} {ps : List MemPlace},
    ts.all (fun t => P.readableRec t && decide (t < P.types.size)) = true → DataW.TrodAll enc P W 0 (fun _ => true) true ts vs ds ps → (∀ x ∈ ps, x.block < W.heap.size) →
    DataW.TrodAll enc P W' 0 (fun b => decide (b < W.heap.size)) true ts vs ds ps := by
  induction ts with
  | nil =>
    intro vs ds ps _ h _
    obtain ⟨rfl, rfl, rfl⟩ := trodAll_nil h
    exact trodAll_mk0
  | cons t ts ih =>
    intro vs ds ps ht h hlt
    obtain ⟨v, vs', d, ds', p, q, rfl, rfl, rfl, h1, h2⟩ := trodAll_cons h
    simp only [List.all_cons, Bool.and_eq_true, decide_eq_true_eq] at ht
    exact trodAll_cons_mk (Below.trod hl ht.1.1 ht.1.2 h1 hb (fun x hx => hlt x (by simp [hx]))) (ih ht.2 h2 (fun x hx => hlt x (by simp [hx])))

/-- THE POST of every law: it answered true, and nothing that was there has turned -/
theorem law_post {H : Type} {enc : TypeId × Value → H} {s : ChangeSpec} {fn : Func} {W W' : World} {args : Array Value} {ds : List (DataW H)} {before : List MemPlace}
    (hW : DataW.Whole enc Tryd.prog fn.params.toList s.vars false W args.toList ds [] before) (hv : s.vars = []) (hfn : s.fn H (ds ++ []) = { results := [.lit (.bool true)], args := ds }) (hr : fn.resultTypes = #[4])
    (hts : fn.params.toList.all (fun t => Tryd.prog.readableRec t && decide (t < Tryd.prog.types.size)) = true) (hb : Below W.heap.size W W') :
    s.post enc Tryd.prog fn false true false false W args (.bool true) W' := by
  have hW' := hW
  obtain ⟨p, q, hA0, hV, rfl, hfz, hnd⟩ := hW
  have hA : DataW.TrodAll enc Tryd.prog W 0 (fun _ => true) true fn.params.toList args.toList ds p := hA0
  rw [hv] at hV
  obtain ⟨_, rfl⟩ := trodVars_none hV
  refine ⟨ds, [], _, [], p, [], hW', ?_, ?_, ?_, hb.frame _, fun h => by cases h⟩
  · rw [hfn, hr]
    exact trodAll_cons_mk (shut_bool Tryd.underlying4 true) trodAll_mk0
  · rw [hfn]
    exact below_trodAll laidOut hb _ hts hA (fun x hx => by simpa using hW'.lt x (by simp [hx]))
  · rw [hv, hfn]
    rfl
theorem star : "*" ++ "errors.errorString" = "*errors.errorString" := by decide
theorem row153 (u : TypeId) (h : Tryd.prog.typeName? 3 u = some "*errors.errorString") : u = 153 :=
  typeName_ptr_named (nm := "errors.errorString") (by rw [star]; kernel_rfl) (by kernel_rfl) (by decide) u (by rw [star]; exact h)
theorem c170 : Tryd.prog.cellsOf 170 = 1 := by kernel_rfl
theorem c9 : Tryd.prog.cellsOf 9 = 1 := by kernel_rfl

/-- a listed variable is read, wherever it stands on the list -/
theorem laid_mem {P : Program} {W : World} {l : List (String × DataW Unit)} (h : laidMet P l W) {n : String} {d : DataW Unit} (hm : (n, d) ∈ l) : ∃ r, laidMet P ((n, d) :: r) W := by
  induction l with
  | nil => cases hm
  | cons x r ih =>
    rcases List.mem_cons.1 hm with rfl | hm
    · exact ⟨r, h⟩
    · exact ih h.tail hm

/-- what a listed error reads as -/
theorem laid_err_any {P : Program} {n nm : String} {text : List UInt8} {r : List (String × DataW Unit)} {W : World} {g : Nat} {ti tp te ts : TypeId} {ms : Array (String × TypeId)} {f : Field}
    (h : laidMet P ((n, .iface nm (.ptr (.agg [.lit (.string text)]))) :: r) W)
    (hg : P.globalNamed n = some g) (ht : (P.globals[g]?).map (·.type) = some ti) (hi : P.underlying ti = some (.interface ms)) (hrow : ∀ u, P.typeName? 3 u = some nm → u = tp)
    (hp : P.underlying tp = some (.pointer te)) (he : P.underlying te = some (.struct #[f])) (hft : f.type = ts) (hfo : f.offset = 0) (hs : P.underlying ts = some .string) (hc : P.cellsOf te = 1) (hcs : P.cellsOf ts = 1) :
    ∃ (a : Addr) (s : ByteArray), W.cell? ⟨g, 0, none⟩ = some (.iface tp (.pointer (some a))) ∧ W.cell? a = some (.string s) ∧ s.data.toList = text ∧ ∃ c t, W.heap[a.block]? = some (.cells c t (0, 0)) := by
  obtain ⟨ps, ⟨g0, t0, cs0, f0, p0, q0, hg0, ht0, hv0, hd0, _, e0⟩, _, hrows⟩ := h
  obtain rfl := Option.some.inj (hg.symm.trans hg0)
  obtain rfl := Option.some.inj (ht.symm.trans ht0)
  subst e0
  obtain ⟨l0⟩ := cs0
  have ok0 : ∀ u v, l0 = [.iface u v] → Value.okWide P W .any 0 u v := fun u v e => by
    subst e
    exact (hrows g 0 (by simp [MemPlace.row])).2 u v (by simpa using World.var?_cell hg0 hv0 0)
  obtain ⟨a0, s0, rfl, hc0, hs0, _, hpp⟩ := errorString_of_trod hi hrow hp he hft hfo hs hc hcs hd0 ok0
  refine ⟨a0, s0, by simpa using World.var?_cell hg0 hv0 0, hc0, hs0, ?_⟩
  subst hpp
  exact (hrows a0.block a0.off (by simp [MemPlace.row])).1
theorem laid_err {W : World} {n : String} {text : List UInt8} {r : List (String × DataW Unit)} {g : Nat} (h : laidMet Tryd.prog ((n, .iface "*errors.errorString" (.ptr (.agg [.lit (.string text)]))) :: r) W)
    (hg : Tryd.prog.globalNamed n = some g) (ht : (Tryd.prog.globals[g]?).map (·.type) = some 26) :
    ∃ (a : Addr) (s : ByteArray), ErrAt W g a ∧ W.cell? a = some (.string s) ∧ s.data.toList = text ∧ ∃ c t, W.heap[a.block]? = some (.cells c t (0, 0)) :=
  laid_err_any h hg ht Tryd.underlying26 row153 Tryd.underlying153 Tryd.underlying170 rfl rfl Tryd.underlying9 c170 c9
def errText : Nat → List UInt8
  | 0 => [99, 111, 110, 99, 111, 114, 100, 58, 32, 114, 97, 110, 103, 101]
  | 1 => [99, 111, 110, 99, 111, 114, 100, 58, 32, 99, 111, 114, 114, 117, 112, 116]
  | 2 => [99, 111, 110, 99, 111, 114, 100, 58, 32, 116, 111, 111, 32, 115, 104, 111, 114, 116]
  | 3 => [99, 111, 110, 99, 111, 114, 100, 58, 32, 118, 97, 114, 105, 110, 116]
  | 4 => [99, 111, 110, 99, 111, 114, 100, 58, 32, 108, 105, 109, 105, 116]
  | 5 => [99, 111, 110, 99, 111, 114, 100, 58, 32, 111, 114, 100, 101, 114]
  | 6 => [99, 111, 110, 99, 111, 114, 100, 58, 32, 116, 97, 105, 108]
  | 7 => [99, 111, 110, 99, 111, 114, 100, 58, 32, 116, 97, 103]
  | 8 => [99, 111, 110, 99, 111, 114, 100, 58, 32, 115, 117, 109]
  | 9 => [99, 111, 110, 99, 111, 114, 100, 58, 32, 115, 105, 122, 101]
  | 10 => [99, 111, 110, 99, 111, 114, 100, 58, 32, 115, 99, 104, 101, 109, 97]
  | 11 => [99, 111, 110, 99, 111, 114, 100, 58, 32, 102, 105, 101, 108, 100]
  | 12 => [99, 111, 110, 99, 111, 114, 100, 58, 32, 118, 97, 108, 117, 101]
  | 13 => [99, 111, 110, 99, 111, 114, 100, 58, 32, 112, 97, 116, 116, 101, 114, 110]
  | 14 => [99, 111, 110, 99, 111, 114, 100, 58, 32, 115, 116, 97, 116, 101, 115]
  | 16 => [99, 111, 110, 99, 111, 114, 100, 58, 32, 115, 121, 110, 116, 97, 120]
  | 17 => [99, 111, 110, 99, 111, 114, 100, 58, 32, 116, 111, 111, 32, 100, 101, 101, 112]
  | 18 => [99, 111, 110, 99, 111, 114, 100, 58, 32, 110, 111, 100, 101]
  | 19 => [99, 111, 110, 99, 111, 114, 100, 58, 32, 116, 111, 111, 32, 109, 97, 110, 121, 32, 116, 101, 114, 109, 115]
  | 20 => [99, 111, 110, 99, 111, 114, 100, 58, 32, 115, 99, 111, 114, 101, 32, 111, 118, 101, 114, 102, 108, 111, 119]
  | 21 => [99, 111, 110, 99, 111, 114, 100, 58, 32, 99, 111, 100, 101]
  | 22 => [99, 111, 110, 99, 111, 114, 100, 58, 32, 102, 117, 101, 108]
  | 23 => [99, 111, 110, 99, 111, 114, 100, 58, 32, 100, 111, 99, 117, 109, 101, 110, 116]
  | 24 => [99, 111, 110, 99, 111, 114, 100, 58, 32, 99, 111, 109, 109, 97, 110, 100]
  | _ => []
/-- one error's reading -/
def ErrRead (W : World) (g : Nat) : Prop := ∃ (a : Addr) (s : ByteArray), ErrAt W g a ∧ W.cell? a = some (.string s) ∧ s.data.toList = errText g ∧ ∃ c t, W.heap[a.block]? = some (.cells c t (0, 0))
theorem errs_of_reads {W : World} {ids : List Nat} (h : ∀ g ∈ ids, ErrRead W g) (hd : ∀ g ∈ ids, ∀ k ∈ ids, g ≠ k → errText g ≠ errText k) : ∃ E, Errs W E ids := by
  have hs : ∀ g : Nat, ∃ a : Addr, g ∈ ids → ∃ s : ByteArray, ErrAt W g a ∧ W.cell? a = some (.string s) ∧ s.data.toList = errText g ∧ ∃ c t, W.heap[a.block]? = some (.cells c t (0, 0)) := fun g => by
    by_cases hg : g ∈ ids
    · obtain ⟨a, s, h1⟩ := h g hg
      exact ⟨a, fun _ => ⟨s, h1⟩⟩
    · exact ⟨default, fun hh => absurd hh hg⟩
  obtain ⟨E, hE⟩ := Classical.axiomOfChoice hs
  refine ⟨E, fun g hg => ?_, fun g hg => ?_, fun g hg k hk hne e => ?_⟩
  · obtain ⟨s, h1, _⟩ := hE g hg
    exact h1
  · obtain ⟨s, _, _, _, h4⟩ := hE g hg
    exact h4
  · obtain ⟨s, _, h2, h3, _⟩ := hE g hg
    obtain ⟨s', _, h2', h3', _⟩ := hE k hk
    rw [e] at h2
    have e2 := Option.some.inj (h2.symm.trans h2')
    simp only [Value.string.injEq] at e2
    exact hd g hg k hk hne (h3.symm.trans ((congrArg (fun b : ByteArray => b.data.toList) e2).trans h3'))
theorem texts_apart : ∀ g ∈ allErrs, ∀ k ∈ allErrs, g ≠ k → errText g ≠ errText k := by decide +kernel
theorem gE0 : Tryd.prog.globalNamed "concord/api.ErrRange" = some 0 := by kernel_rfl
theorem tE0 : (Tryd.prog.globals[0]?).map (·.type) = some 26 := by kernel_rfl
theorem read0 {W : World} {l : List (String × DataW Unit)} (h : laidMet Tryd.prog l W) (hm : ("concord/api.ErrRange", Rows.laid_concord_api_ErrRange) ∈ l) : ErrRead W 0 := by
  obtain ⟨r, h1⟩ := laid_mem h hm
  exact laid_err (text := errText 0) h1 gE0 tE0
theorem gE1 : Tryd.prog.globalNamed "concord/api.ErrCorrupt" = some 1 := by kernel_rfl
theorem tE1 : (Tryd.prog.globals[1]?).map (·.type) = some 26 := by kernel_rfl
theorem read1 {W : World} {l : List (String × DataW Unit)} (h : laidMet Tryd.prog l W) (hm : ("concord/api.ErrCorrupt", Rows.laid_concord_api_ErrCorrupt) ∈ l) : ErrRead W 1 := by
  obtain ⟨r, h1⟩ := laid_mem h hm
  exact laid_err (text := errText 1) h1 gE1 tE1
theorem gE2 : Tryd.prog.globalNamed "concord/api.ErrShort" = some 2 := by kernel_rfl
theorem tE2 : (Tryd.prog.globals[2]?).map (·.type) = some 26 := by kernel_rfl
theorem read2 {W : World} {l : List (String × DataW Unit)} (h : laidMet Tryd.prog l W) (hm : ("concord/api.ErrShort", Rows.laid_concord_api_ErrShort) ∈ l) : ErrRead W 2 := by
  obtain ⟨r, h1⟩ := laid_mem h hm
  exact laid_err (text := errText 2) h1 gE2 tE2
theorem gE3 : Tryd.prog.globalNamed "concord/api.ErrVarint" = some 3 := by kernel_rfl
theorem tE3 : (Tryd.prog.globals[3]?).map (·.type) = some 26 := by kernel_rfl
theorem read3 {W : World} {l : List (String × DataW Unit)} (h : laidMet Tryd.prog l W) (hm : ("concord/api.ErrVarint", Rows.laid_concord_api_ErrVarint) ∈ l) : ErrRead W 3 := by
  obtain ⟨r, h1⟩ := laid_mem h hm
  exact laid_err (text := errText 3) h1 gE3 tE3
theorem gE4 : Tryd.prog.globalNamed "concord/api.ErrLimit" = some 4 := by kernel_rfl
theorem tE4 : (Tryd.prog.globals[4]?).map (·.type) = some 26 := by kernel_rfl
theorem read4 {W : World} {l : List (String × DataW Unit)} (h : laidMet Tryd.prog l W) (hm : ("concord/api.ErrLimit", Rows.laid_concord_api_ErrLimit) ∈ l) : ErrRead W 4 := by
  obtain ⟨r, h1⟩ := laid_mem h hm
  exact laid_err (text := errText 4) h1 gE4 tE4
theorem gE5 : Tryd.prog.globalNamed "concord/api.ErrOrder" = some 5 := by kernel_rfl
theorem tE5 : (Tryd.prog.globals[5]?).map (·.type) = some 26 := by kernel_rfl
theorem read5 {W : World} {l : List (String × DataW Unit)} (h : laidMet Tryd.prog l W) (hm : ("concord/api.ErrOrder", Rows.laid_concord_api_ErrOrder) ∈ l) : ErrRead W 5 := by
  obtain ⟨r, h1⟩ := laid_mem h hm
  exact laid_err (text := errText 5) h1 gE5 tE5
theorem gE6 : Tryd.prog.globalNamed "concord/api.ErrTail" = some 6 := by kernel_rfl
theorem tE6 : (Tryd.prog.globals[6]?).map (·.type) = some 26 := by kernel_rfl
theorem read6 {W : World} {l : List (String × DataW Unit)} (h : laidMet Tryd.prog l W) (hm : ("concord/api.ErrTail", Rows.laid_concord_api_ErrTail) ∈ l) : ErrRead W 6 := by
  obtain ⟨r, h1⟩ := laid_mem h hm
  exact laid_err (text := errText 6) h1 gE6 tE6
theorem gE7 : Tryd.prog.globalNamed "concord/api.ErrTag" = some 7 := by kernel_rfl
theorem tE7 : (Tryd.prog.globals[7]?).map (·.type) = some 26 := by kernel_rfl
theorem read7 {W : World} {l : List (String × DataW Unit)} (h : laidMet Tryd.prog l W) (hm : ("concord/api.ErrTag", Rows.laid_concord_api_ErrTag) ∈ l) : ErrRead W 7 := by
  obtain ⟨r, h1⟩ := laid_mem h hm
  exact laid_err (text := errText 7) h1 gE7 tE7
theorem gE8 : Tryd.prog.globalNamed "concord/api.ErrSum" = some 8 := by kernel_rfl
theorem tE8 : (Tryd.prog.globals[8]?).map (·.type) = some 26 := by kernel_rfl
theorem read8 {W : World} {l : List (String × DataW Unit)} (h : laidMet Tryd.prog l W) (hm : ("concord/api.ErrSum", Rows.laid_concord_api_ErrSum) ∈ l) : ErrRead W 8 := by
  obtain ⟨r, h1⟩ := laid_mem h hm
  exact laid_err (text := errText 8) h1 gE8 tE8
theorem gE9 : Tryd.prog.globalNamed "concord/api.ErrSize" = some 9 := by kernel_rfl
theorem tE9 : (Tryd.prog.globals[9]?).map (·.type) = some 26 := by kernel_rfl
theorem read9 {W : World} {l : List (String × DataW Unit)} (h : laidMet Tryd.prog l W) (hm : ("concord/api.ErrSize", Rows.laid_concord_api_ErrSize) ∈ l) : ErrRead W 9 := by
  obtain ⟨r, h1⟩ := laid_mem h hm
  exact laid_err (text := errText 9) h1 gE9 tE9
theorem gE10 : Tryd.prog.globalNamed "concord/api.ErrSchema" = some 10 := by kernel_rfl
theorem tE10 : (Tryd.prog.globals[10]?).map (·.type) = some 26 := by kernel_rfl
theorem read10 {W : World} {l : List (String × DataW Unit)} (h : laidMet Tryd.prog l W) (hm : ("concord/api.ErrSchema", Rows.laid_concord_api_ErrSchema) ∈ l) : ErrRead W 10 := by
  obtain ⟨r, h1⟩ := laid_mem h hm
  exact laid_err (text := errText 10) h1 gE10 tE10
theorem gE11 : Tryd.prog.globalNamed "concord/api.ErrField" = some 11 := by kernel_rfl
theorem tE11 : (Tryd.prog.globals[11]?).map (·.type) = some 26 := by kernel_rfl
theorem read11 {W : World} {l : List (String × DataW Unit)} (h : laidMet Tryd.prog l W) (hm : ("concord/api.ErrField", Rows.laid_concord_api_ErrField) ∈ l) : ErrRead W 11 := by
  obtain ⟨r, h1⟩ := laid_mem h hm
  exact laid_err (text := errText 11) h1 gE11 tE11
theorem gE12 : Tryd.prog.globalNamed "concord/api.ErrValue" = some 12 := by kernel_rfl
theorem tE12 : (Tryd.prog.globals[12]?).map (·.type) = some 26 := by kernel_rfl
theorem read12 {W : World} {l : List (String × DataW Unit)} (h : laidMet Tryd.prog l W) (hm : ("concord/api.ErrValue", Rows.laid_concord_api_ErrValue) ∈ l) : ErrRead W 12 := by
  obtain ⟨r, h1⟩ := laid_mem h hm
  exact laid_err (text := errText 12) h1 gE12 tE12
theorem gE13 : Tryd.prog.globalNamed "concord/api.ErrPattern" = some 13 := by kernel_rfl
theorem tE13 : (Tryd.prog.globals[13]?).map (·.type) = some 26 := by kernel_rfl
theorem read13 {W : World} {l : List (String × DataW Unit)} (h : laidMet Tryd.prog l W) (hm : ("concord/api.ErrPattern", Rows.laid_concord_api_ErrPattern) ∈ l) : ErrRead W 13 := by
  obtain ⟨r, h1⟩ := laid_mem h hm
  exact laid_err (text := errText 13) h1 gE13 tE13
theorem gE14 : Tryd.prog.globalNamed "concord/api.ErrStates" = some 14 := by kernel_rfl
theorem tE14 : (Tryd.prog.globals[14]?).map (·.type) = some 26 := by kernel_rfl
theorem read14 {W : World} {l : List (String × DataW Unit)} (h : laidMet Tryd.prog l W) (hm : ("concord/api.ErrStates", Rows.laid_concord_api_ErrStates) ∈ l) : ErrRead W 14 := by
  obtain ⟨r, h1⟩ := laid_mem h hm
  exact laid_err (text := errText 14) h1 gE14 tE14
theorem gE16 : Tryd.prog.globalNamed "concord/api.ErrSyntax" = some 16 := by kernel_rfl
theorem tE16 : (Tryd.prog.globals[16]?).map (·.type) = some 26 := by kernel_rfl
theorem read16 {W : World} {l : List (String × DataW Unit)} (h : laidMet Tryd.prog l W) (hm : ("concord/api.ErrSyntax", Rows.laid_concord_api_ErrSyntax) ∈ l) : ErrRead W 16 := by
  obtain ⟨r, h1⟩ := laid_mem h hm
  exact laid_err (text := errText 16) h1 gE16 tE16
theorem gE17 : Tryd.prog.globalNamed "concord/api.ErrDeep" = some 17 := by kernel_rfl
theorem tE17 : (Tryd.prog.globals[17]?).map (·.type) = some 26 := by kernel_rfl
theorem read17 {W : World} {l : List (String × DataW Unit)} (h : laidMet Tryd.prog l W) (hm : ("concord/api.ErrDeep", Rows.laid_concord_api_ErrDeep) ∈ l) : ErrRead W 17 := by
  obtain ⟨r, h1⟩ := laid_mem h hm
  exact laid_err (text := errText 17) h1 gE17 tE17
theorem gE18 : Tryd.prog.globalNamed "concord/api.ErrNode" = some 18 := by kernel_rfl
theorem tE18 : (Tryd.prog.globals[18]?).map (·.type) = some 26 := by kernel_rfl
theorem read18 {W : World} {l : List (String × DataW Unit)} (h : laidMet Tryd.prog l W) (hm : ("concord/api.ErrNode", Rows.laid_concord_api_ErrNode) ∈ l) : ErrRead W 18 := by
  obtain ⟨r, h1⟩ := laid_mem h hm
  exact laid_err (text := errText 18) h1 gE18 tE18
theorem gE19 : Tryd.prog.globalNamed "concord/api.ErrTerms" = some 19 := by kernel_rfl
theorem tE19 : (Tryd.prog.globals[19]?).map (·.type) = some 26 := by kernel_rfl
theorem read19 {W : World} {l : List (String × DataW Unit)} (h : laidMet Tryd.prog l W) (hm : ("concord/api.ErrTerms", Rows.laid_concord_api_ErrTerms) ∈ l) : ErrRead W 19 := by
  obtain ⟨r, h1⟩ := laid_mem h hm
  exact laid_err (text := errText 19) h1 gE19 tE19
theorem gE20 : Tryd.prog.globalNamed "concord/api.ErrScore" = some 20 := by kernel_rfl
theorem tE20 : (Tryd.prog.globals[20]?).map (·.type) = some 26 := by kernel_rfl
theorem read20 {W : World} {l : List (String × DataW Unit)} (h : laidMet Tryd.prog l W) (hm : ("concord/api.ErrScore", Rows.laid_concord_api_ErrScore) ∈ l) : ErrRead W 20 := by
  obtain ⟨r, h1⟩ := laid_mem h hm
  exact laid_err (text := errText 20) h1 gE20 tE20
theorem gE21 : Tryd.prog.globalNamed "concord/api.ErrCode" = some 21 := by kernel_rfl
theorem tE21 : (Tryd.prog.globals[21]?).map (·.type) = some 26 := by kernel_rfl
theorem read21 {W : World} {l : List (String × DataW Unit)} (h : laidMet Tryd.prog l W) (hm : ("concord/api.ErrCode", Rows.laid_concord_api_ErrCode) ∈ l) : ErrRead W 21 := by
  obtain ⟨r, h1⟩ := laid_mem h hm
  exact laid_err (text := errText 21) h1 gE21 tE21
theorem gE22 : Tryd.prog.globalNamed "concord/api.ErrFuel" = some 22 := by kernel_rfl
theorem tE22 : (Tryd.prog.globals[22]?).map (·.type) = some 26 := by kernel_rfl
theorem read22 {W : World} {l : List (String × DataW Unit)} (h : laidMet Tryd.prog l W) (hm : ("concord/api.ErrFuel", Rows.laid_concord_api_ErrFuel) ∈ l) : ErrRead W 22 := by
  obtain ⟨r, h1⟩ := laid_mem h hm
  exact laid_err (text := errText 22) h1 gE22 tE22
theorem gE23 : Tryd.prog.globalNamed "concord/api.ErrDoc" = some 23 := by kernel_rfl
theorem tE23 : (Tryd.prog.globals[23]?).map (·.type) = some 26 := by kernel_rfl
theorem read23 {W : World} {l : List (String × DataW Unit)} (h : laidMet Tryd.prog l W) (hm : ("concord/api.ErrDoc", Rows.laid_concord_api_ErrDoc) ∈ l) : ErrRead W 23 := by
  obtain ⟨r, h1⟩ := laid_mem h hm
  exact laid_err (text := errText 23) h1 gE23 tE23
theorem gE24 : Tryd.prog.globalNamed "concord/api.ErrCommand" = some 24 := by kernel_rfl
theorem tE24 : (Tryd.prog.globals[24]?).map (·.type) = some 26 := by kernel_rfl
theorem read24 {W : World} {l : List (String × DataW Unit)} (h : laidMet Tryd.prog l W) (hm : ("concord/api.ErrCommand", Rows.laid_concord_api_ErrCommand) ∈ l) : ErrRead W 24 := by
  obtain ⟨r, h1⟩ := laid_mem h hm
  exact laid_err (text := errText 24) h1 gE24 tE24
end Go.Proofs.YtmkbbekeimnajaaDoor

/-! Tbl: the table off the row -/
namespace Go.Proofs.YtmkbbekeimnajaaDoor
open Go Go.RowKit Ds
theorem gTab : Tryd.prog.globalNamed "math/bits.deBruijn64tab" = some 15 := by kernel_rfl
theorem tTab : (Tryd.prog.globals[15]?).map (·.type) = some 123 := by kernel_rfl
theorem debr_of_mem {W : World} {l : List (String × DataW Unit)} (h : laidMet Tryd.prog l W) (hm : ("math/bits.deBruijn64tab", Rows.laid_math_bits_deBruijn64tab) ∈ l) : DeBr W := by
  obtain ⟨r, h1⟩ := laid_mem h hm
  have ht : Go.Lib.TabIs Tryd.prog W "math/bits.deBruijn64tab" .u8 (Go.Lib.deBruijn64tab.map fun (n : Nat) => (n : Int)) := Go.Lib.tabIs_of_head gTab tTab Tryd.underlying123 Tryd.underlying5 (by kernel_rfl) (by kernel_rfl) h1
  intro j hj
  have := ht.cell gTab j (by simpa [Go.Lib.deBruijn64tab] using hj)
  rw [this]
  simp [List.getD, List.getElem?_map]
  cases hx : Go.Lib.deBruijn64tab[j]? <;> rfl
end Go.Proofs.YtmkbbekeimnajaaDoor

/-! Opn: arguments opened: numbers, bytes -/
namespace Go.Proofs.YtmkbbekeimnajaaDoor
open Go Go.ChangeShapes Go.WideShapes Go.ChangeAt Go.RowKit
theorem co3 : Tryd.prog.cellsOf 3 = 1 := by kernel_rfl
theorem co5 : Tryd.prog.cellsOf 5 = 1 := by kernel_rfl
theorem by3 : Tryd.prog.bytesOf 3 = 8 := by kernel_rfl
theorem by5 : Tryd.prog.bytesOf 5 = 1 := by kernel_rfl
/-- what was read has this length -/
def Len {H : Type} (d : DataW H) (n : Nat) : Prop := (d = .nil ∧ n = 0) ∨ ∃ elems sp, d = .slice elems sp ∧ elems.length = n
section
variable {H : Type} {enc : TypeId × Value → H} {P : Program} {W : World} {base : Nat} {spare : Nat → Bool} {held : Bool} {n : Nat} {v : Value} {d : DataW H} {p : List MemPlace}
theorem ints_of_trod {T E : TypeId} (hT : P.underlying T = some (.slice E)) (hE : P.underlying E = some (.int .i64)) (hC : P.cellsOf E = 1) (h : DataW.trod enc P W base spare held n T [v] = some (d, p)) :
    ∃ zs, Ints W v zs ∧ Len d zs.length := by
  rcases open_ints hT hE hC h with ⟨hcs, hx⟩ | ⟨a, len, cap, zs, hcs, hb, hl, hm, hz, hx, hc, hw⟩
  · simp only [List.cons.injEq, and_true] at hcs
    simp only [Prod.mk.injEq] at hx
    exact ⟨[], .inl ⟨hcs, rfl⟩, .inl ⟨hx.1, rfl⟩⟩
  · simp only [List.cons.injEq, and_true] at hcs
    simp only [Prod.mk.injEq] at hx
    have hlz : len ≤ zs.length := by rw [hz]; split <;> omega
    have hlen : (zs.take len).length = len := by simp; omega
    refine ⟨zs.take len, .inr ⟨a, cap, by rw [hlen]; exact hcs, by rw [hlen]; exact hl, by unfold maxLen at hm; omega, fun k x hk => ?_⟩, .inr ⟨_, _, hx.1, by simp [lits]⟩⟩
    obtain ⟨hkl, hz2⟩ := List.getElem?_eq_some_iff.1 hk
    simp at hkl hz2
    rw [hc k (by omega)]
    have e : zs.getD k 0 = x := by rw [List.getD_eq_getElem?_getD, List.getElem?_eq_getElem (by omega)]; exact hz2
    rw [e]
theorem bytes_of_trod {T E : TypeId} (hT : P.underlying T = some (.slice E)) (hE : P.underlying E = some (.int .u8)) (hC : P.cellsOf E = 1) (h : DataW.trod enc P W base spare held n T [v] = some (d, p)) :
    ∃ bs, Src W v bs ∧ Len d bs.length := by
  rcases open_ints hT hE hC h with ⟨hcs, hx⟩ | ⟨a, len, cap, zs, hcs, hb, hl, hm, hz, hx, hc, hw⟩
  · simp only [List.cons.injEq, and_true] at hcs
    simp only [Prod.mk.injEq] at hx
    exact ⟨[], ⟨by simp, .inl ⟨hcs, rfl⟩⟩, .inl ⟨hx.1, rfl⟩⟩
  · simp only [List.cons.injEq, and_true] at hcs
    simp only [Prod.mk.injEq] at hx
    have hlz : len ≤ zs.length := by rw [hz]; split <;> omega
    have hlen : ((zs.take len).map Int.toNat).length = len := by simp; omega
    have hin : ∀ z ∈ zs, 0 ≤ z ∧ z ≤ 255 := fun z hz => by
      have := hw z hz
      simp [Lit.wf, IntKind.min, IntKind.max, IntKind.signed, IntKind.bits] at this
      omega
    refine ⟨(zs.take len).map Int.toNat, ⟨?_, .inr ⟨a, cap, by rw [hlen]; exact hcs, by rw [hlen]; exact hl, by unfold maxLen at hm; omega, ?_⟩⟩, .inr ⟨_, _, hx.1, by simp [lits]⟩⟩
    · intro x hx
      obtain ⟨z, hz, rfl⟩ := List.mem_map.1 hx
      have := hin z (List.mem_of_mem_take hz)
      omega
    · intro k x hk
      simp only [List.getElem?_map, Option.map_eq_some_iff] at hk
      obtain ⟨z, hz, rfl⟩ := hk
      obtain ⟨hkl, hz2⟩ := List.getElem?_eq_some_iff.1 hz
      simp at hkl hz2
      have hmem : z ∈ zs := by rw [← hz2]; exact List.getElem_mem _
      have h0 := hin z hmem
      rw [hc k (by omega)]
      have e : zs.getD k 0 = z := by rw [List.getD_eq_getElem?_getD, List.getElem?_eq_getElem (by omega)]; exact hz2
      rw [e, Int.toNat_of_nonneg h0.1]
end
set_option maxRecDepth 100000 in
theorem open_nums {H : Type} {enc : TypeId × Value → H} {W : World} {base : Nat} {v : Value} {d : DataW H} {p : List MemPlace}
    (hv : Value.okWide Tryd.prog W .any base 22 v) (h : DataW.Trod enc Tryd.prog W 0 (fun _ => true) true 22 v d p) : ∃ zs, Ints W v zs ∧ Len d zs.length := by
  obtain ⟨a0, len, cap, rfl⟩ := okWide_slice Tryd.underlying22 hv
  obtain ⟨fuel, hf⟩ := h
  exact ints_of_trod Tryd.underlying22 Tryd.underlying3 co3 hf
set_option maxRecDepth 100000 in
theorem open_bytes {H : Type} {enc : TypeId × Value → H} {W : World} {base : Nat} {v : Value} {d : DataW H} {p : List MemPlace}
    (hv : Value.okWide Tryd.prog W .any base 46 v) (h : DataW.Trod enc Tryd.prog W 0 (fun _ => true) true 46 v d p) : ∃ bs, Src W v bs ∧ Len d bs.length := by
  obtain ⟨a0, len, cap, rfl⟩ := okWide_slice Tryd.underlying46 hv
  obtain ⟨fuel, hf⟩ := h
  exact bytes_of_trod Tryd.underlying46 Tryd.underlying5 co5 hf
/-- the reach pays for their number -/
theorem nums_reach {H : Type} {ts : List TypeId} {ds : List (DataW H)} (hsz : (DataW.weightsEach Tryd.prog ts ds).all (· ≤ reachBytes) = true) {j : Nat} {d : DataW H} {k : Nat} (ht : ts[j]? = some 22) (hd : ds[j]? = some d)
    (h : Len d k) : k * 8 ≤ 140737488351232 := by
  rcases h with ⟨_, rfl⟩ | ⟨elems, sp, rfl, hl⟩
  · simp
  · have := sized_slice hsz ht hd Tryd.underlying22
    rw [by3] at this
    simp only [reachBytes] at this
    omega
theorem bytes_reach {H : Type} {ts : List TypeId} {ds : List (DataW H)} (hsz : (DataW.weightsEach Tryd.prog ts ds).all (· ≤ reachBytes) = true) {j : Nat} {d : DataW H} {k : Nat} (ht : ts[j]? = some 46) (hd : ds[j]? = some d)
    (h : Len d k) : k ≤ 140737488351232 := by
  rcases h with ⟨_, rfl⟩ | ⟨elems, sp, rfl, hl⟩
  · simp
  · have := sized_slice hsz ht hd Tryd.underlying46
    rw [by5] at this
    simp only [reachBytes] at this
    omega
end Go.Proofs.YtmkbbekeimnajaaDoor

/-! Op: a script of calls that came in -/
namespace Go.Proofs.YtmkbbekeimnajaaDoor
open Go Go.ChangeShapes Go.WideShapes Go.ChangeAt Go.RowKit
/-- one call of the script -/
structure OpR where
  k : Int
  s : Int
  t : Int
  dst : Int
  n : Int
  lst : Value
  bv : Value
  zs : List Int
  bs : List Nat
def OpAt (w : World) (ad : Addr) (x : OpR) : Prop :=
  w.cell? (ad.add 0) = some (.int .i64 x.k) ∧ w.cell? (ad.add 1) = some (.int .i64 x.s) ∧ w.cell? (ad.add 2) = some (.int .i64 x.t) ∧ w.cell? (ad.add 3) = some (.int .i64 x.dst) ∧ w.cell? (ad.add 4) = some (.int .i64 x.n) ∧
  w.cell? (ad.add 5) = some x.lst ∧ w.cell? (ad.add 6) = some x.bv ∧ Ints w x.lst x.zs ∧ Src w x.bv x.bs ∧ x.zs.length ≤ 140737488351232 ∧ x.bs.length ≤ 140737488351232
def OpsAt (w : World) (v : Value) (ops : List OpR) : Prop :=
  (v = .slice none 0 0 ∧ ops = []) ∨ ∃ ad cap, v = .slice (some ad) ops.length cap ∧ ops.length ≤ cap ∧ cap ≤ 9223372036854775807 ∧ ∀ (k : Nat) (x : OpR), ops[k]? = some x → OpAt w (ad.add (k * 7)) x
theorem opAt_keep {w w' : World} {ad : Addr} {x : OpR} (h : OpAt w ad x) (hb : Below w.heap.size w w') : OpAt w' ad x := by
  obtain ⟨h0, h1, h2, h3, h4, h5, h6, h7, h8, h9⟩ := h
  have K : ∀ {a : Addr} {v : Value}, w.cell? a = some v → w'.cell? a = some v := fun h => (hb.cell (World.block_lt_of_cell? w _ h)).trans h
  exact ⟨K h0, K h1, K h2, K h3, K h4, K h5, K h6, ints_keep h7 hb, src_keep h8 hb, h9⟩
theorem opsAt_get {w : World} {v : Value} {ops : List OpR} (h : OpsAt w v ops) {k : Nat} {x : OpR} (hk : ops[k]? = some x) : ∃ ad cap, v = .slice (some ad) ops.length cap ∧ OpAt w (ad.add (k * 7)) x := by
  rcases h with ⟨_, rfl⟩ | ⟨ad, cap, h1, _, _, h4⟩
  · simp at hk
  · exact ⟨ad, cap, h1, h4 k x hk⟩
theorem opsAt_form {w : World} {v : Value} {ops : List OpR} (h : OpsAt w v ops) : ∃ ao cap, v = .slice ao ops.length cap := by
  rcases h with ⟨rfl, rfl⟩ | ⟨ad, cap, h1, _⟩
  · exact ⟨none, 0, rfl⟩
  · exact ⟨_, _, h1⟩
theorem addr_far (X : Addr) {j : Nat} (hj : 0 < j) : X.add j = ⟨X.block, X.off + j, none⟩ := by
  unfold Addr.add
  rw [if_neg (by omega)]
theorem opAt_cells {w : World} {ad : Addr} {x : OpR} (h : OpAt w ad x) :
    w.cell? ad = some (.int .i64 x.k) ∧ w.cell? ⟨ad.block, ad.off + 1, none⟩ = some (.int .i64 x.s) ∧ w.cell? ⟨ad.block, ad.off + 2, none⟩ = some (.int .i64 x.t) ∧ w.cell? ⟨ad.block, ad.off + 3, none⟩ = some (.int .i64 x.dst) ∧
    w.cell? ⟨ad.block, ad.off + 4, none⟩ = some (.int .i64 x.n) ∧ w.cell? ⟨ad.block, ad.off + 5, none⟩ = some x.lst ∧ w.cell? ⟨ad.block, ad.off + 6, none⟩ = some x.bv := by
  obtain ⟨h0, h1, h2, h3, h4, h5, h6, _⟩ := h
  rw [addr_far _ (by omega)] at h1 h2 h3 h4 h5 h6
  exact ⟨h0, h1, h2, h3, h4, h5, h6⟩
section
variable {H : Type} {enc : TypeId × Value → H} {P : Program} {W : World} {base : Nat} {spare : Nat → Bool} {held : Bool} {n : Nat} {v : Value} {d : DataW H} {p : List MemPlace}
theorem len_weights {T E : TypeId} {d : DataW H} {k : Nat} (h : Len d k) (hT : P.underlying T = some (.slice E)) (hE : 1 ≤ P.bytesOf E) (hw : ∀ x ∈ d.weights P T, x ≤ reachBytes) : k ≤ 140737488351232 := by
  rcases h with ⟨_, rfl⟩ | ⟨elems, sp, rfl, rfl⟩
  · omega
  · have := hw ((elems.length + sp.length) * P.bytesOf E) (by simp [DataW.weights, hT])
    have h2 : elems.length * 1 ≤ (elems.length + sp.length) * P.bytesOf E := Nat.mul_le_mul (by omega) hE
    simp only [reachBytes] at this
    omega
theorem weights_each {T : TypeId} {d : DataW H} {x : Nat} : ∀ {ts : List TypeId} {ds : List (DataW H)} {j : Nat}, ts[j]? = some T → ds[j]? = some d → x ∈ d.weights P T → x ∈ DataW.weightsEach P ts ds := fun h1 h2 h3 => DataW.weights_mem_each h1 h2 _ h3
theorem weights_all {E : TypeId} {x : Nat} : ∀ {ds : List (DataW H)} {d : DataW H}, d ∈ ds → x ∈ d.weights P E → x ∈ DataW.weightsAll P E ds
  | d0 :: ds, d, hd, hx => by
    simp only [DataW.weightsAll, List.mem_append]
    rcases List.mem_cons.1 hd with rfl | hd
    · exact .inl hx
    · exact .inr (weights_all hd hx)
theorem op_of_trod {E I L B U : TypeId} {f0 f1 f2 f3 f4 f5 f6 : Field} {a : Addr} {cs' : List Value}
    (hE : P.underlying E = some (.struct #[f0, f1, f2, f3, f4, f5, f6])) (o0 : f0.offset = 0) (o1 : f1.offset = 1) (o2 : f2.offset = 2) (o3 : f3.offset = 3) (o4 : f4.offset = 4) (o5 : f5.offset = 5) (o6 : f6.offset = 6)
    (t0 : f0.type = I) (t1 : f1.type = I) (t2 : f2.type = I) (t3 : f3.type = I) (t4 : f4.type = I) (t5 : f5.type = L) (t6 : f6.type = B) (hI : P.underlying I = some (.int .i64)) (cI : P.cellsOf I = 1)
    (hL : P.underlying L = some (.slice I)) (cL : P.cellsOf L = 1) (hB : P.underlying B = some (.slice U)) (cB : P.cellsOf B = 1) (hU : P.underlying U = some (.int .u8)) (cU : P.cellsOf U = 1) (bI : 1 ≤ P.bytesOf I) (bU : 1 ≤ P.bytesOf U)
    (hlen : cs'.length = 7) (hcell : ∀ i, i < 7 → W.cell? (a.add i) = cs'[i]?) (h : DataW.trod enc P W base spare held n E cs' = some (d, p)) (hw : ∀ x ∈ d.weights P E, x ≤ reachBytes) :
    ∃ x : OpR, OpAt W a x := by
  obtain ⟨xs, n2, _, hx, _, hxl, hall⟩ := DataW.trod_struct hE h
  match cs', hlen, xs, hxl with
  | [v0, v1, v2, v3, v4, v5, v6], _, [y0, y1, y2, y3, y4, y5, y6], _ =>
    have e0 := hall 0 f0 rfl
    have e1 := hall 1 f1 rfl
    have e2 := hall 2 f2 rfl
    have e3 := hall 3 f3 rfl
    have e4 := hall 4 f4 rfl
    have e5 := hall 5 f5 rfl
    have e6 := hall 6 f6 rfl
    rw [o0, t0, cI] at e0
    rw [o1, t1, cI] at e1
    rw [o2, t2, cI] at e2
    rw [o3, t3, cI] at e3
    rw [o4, t4, cI] at e4
    rw [o5, t5, cL] at e5
    rw [o6, t6, cB] at e6
    simp only [List.drop_zero, List.drop_succ_cons, List.take_succ_cons, List.take_zero, List.getElem?_cons_zero, List.getElem?_cons_succ] at e0 e1 e2 e3 e4 e5 e6
    obtain ⟨z0, hz0, _, _⟩ := DataW.trod_int hI e0
    obtain ⟨z1, hz1, _, _⟩ := DataW.trod_int hI e1
    obtain ⟨z2, hz2, _, _⟩ := DataW.trod_int hI e2
    obtain ⟨z3, hz3, _, _⟩ := DataW.trod_int hI e3
    obtain ⟨z4, hz4, _, _⟩ := DataW.trod_int hI e4
    obtain ⟨zs, hzs, lzs⟩ := ints_of_trod (d := y5.1) (p := y5.2) hL hI cI e5
    obtain ⟨bs, hbs, lbs⟩ := bytes_of_trod (d := y6.1) (p := y6.2) hB hU cU e6
    simp only [List.cons.injEq, and_true] at hz0 hz1 hz2 hz3 hz4
    simp only [Prod.mk.injEq, List.map_cons, List.map_nil] at hx
    subst hz0 hz1 hz2 hz3 hz4
    have hwE : DataW.weights P E d = DataW.weightsEach P [I, I, I, I, I, L, B] [y0.1, y1.1, y2.1, y3.1, y4.1, y5.1, y6.1] := by
      rw [hx.1, DataW.weights, hE]
      simp only [List.map_cons, List.map_nil, t0, t1, t2, t3, t4, t5, t6]
    rw [hwE] at hw
    refine ⟨⟨z0, z1, z2, z3, z4, v5, v6, zs, bs⟩, by rw [hcell 0 (by omega)]; rfl, by rw [hcell 1 (by omega)]; rfl, by rw [hcell 2 (by omega)]; rfl, by rw [hcell 3 (by omega)]; rfl, by rw [hcell 4 (by omega)]; rfl, by rw [hcell 5 (by omega)]; rfl, by rw [hcell 6 (by omega)]; rfl, hzs, hbs, ?_, ?_⟩
    · exact len_weights (T := L) (E := I) lzs hL bI (fun x hx => hw x (weights_each (j := 5) rfl rfl hx))
    · exact len_weights (T := B) (E := U) lbs hB bU (fun x hx => hw x (weights_each (j := 6) rfl rfl hx))
theorem ops_of_trod {T E I L B U : TypeId} {f0 f1 f2 f3 f4 f5 f6 : Field}
    (hT : P.underlying T = some (.slice E)) (cE : P.cellsOf E = 7) (bE : 1 ≤ P.bytesOf E) (hE : P.underlying E = some (.struct #[f0, f1, f2, f3, f4, f5, f6])) (o0 : f0.offset = 0) (o1 : f1.offset = 1) (o2 : f2.offset = 2) (o3 : f3.offset = 3) (o4 : f4.offset = 4) (o5 : f5.offset = 5) (o6 : f6.offset = 6)
    (t0 : f0.type = I) (t1 : f1.type = I) (t2 : f2.type = I) (t3 : f3.type = I) (t4 : f4.type = I) (t5 : f5.type = L) (t6 : f6.type = B) (hI : P.underlying I = some (.int .i64)) (cI : P.cellsOf I = 1)
    (hL : P.underlying L = some (.slice I)) (cL : P.cellsOf L = 1) (hB : P.underlying B = some (.slice U)) (cB : P.cellsOf B = 1) (hU : P.underlying U = some (.int .u8)) (cU : P.cellsOf U = 1) (bI : 1 ≤ P.bytesOf I) (bU : 1 ≤ P.bytesOf U)
    (h : DataW.trod enc P W base spare held n T [v] = some (d, p)) (hw : ∀ x ∈ d.weights P T, x ≤ reachBytes) :
    ∃ ops, OpsAt W v ops ∧ ops.length ≤ 140737488351232 := by
  rcases Go.Deep.open_slice hT h with ⟨h1, h2⟩ | ⟨a, len, cap, m, n', D, Pl, hcs, hb, hl, hm, hmm, hx, hi⟩
  · simp only [List.cons.injEq, and_true] at h1
    exact ⟨[], .inl ⟨h1, rfl⟩, by simp⟩
  · have hlm : len ≤ m := by rw [hmm]; split <;> omega
    simp only [List.cons.injEq, and_true] at hcs
    simp only [Prod.mk.injEq] at hx
    have hwd : DataW.weights P T d = ((List.map D (List.range len)).length + (List.map (fun j => D (len + j)) (List.range (m - len))).length) * P.bytesOf E :: (DataW.weightsAll P E (List.map D (List.range len)) ++ DataW.weightsAll P E (List.map (fun j => D (len + j)) (List.range (m - len)))) := by
      rw [hx.1, DataW.weights, hT]
    have each : ∀ i, i < len → ∃ x : OpR, OpAt W (a.add (i * 7)) x := by
      intro i hil
      obtain ⟨cs', k1, k2⟩ := hi i (by omega)
      rw [cE] at k1
      obtain ⟨_, hlen, hcell⟩ := World.cells?_some k1
      refine op_of_trod (d := D i) (p := Pl i) hE o0 o1 o2 o3 o4 o5 o6 t0 t1 t2 t3 t4 t5 t6 hI cI hL cL hB cB hU cU bI bU hlen hcell k2 (fun x hx => hw x ?_)
      rw [hwd, List.mem_cons, List.mem_append]
      exact .inr (.inl (weights_all (List.mem_map.2 ⟨i, List.mem_range.2 hil, rfl⟩) hx))
    have : Inhabited OpR := ⟨⟨0, 0, 0, 0, 0, .bool false, .bool false, [], []⟩⟩
    obtain ⟨q, hq⟩ := Go.Deep.choose_lt each
    refine ⟨(List.range len).map q, .inr ⟨a, cap, by rw [hcs]; simp, by simpa using hl, by unfold maxLen at hm; omega, ?_⟩, ?_⟩
    · intro k x hk
      simp only [List.getElem?_map, Option.map_eq_some_iff] at hk
      obtain ⟨j, hj, rfl⟩ := hk
      obtain ⟨hkl, hkj⟩ := List.getElem?_eq_some_iff.1 hj
      simp at hkl hkj
      subst hkj
      exact hq k hkl
    · have h1 := hw _ (by rw [hwd]; exact List.mem_cons_self)
      have h2 : ((List.range len).map D).length * 1 ≤ (((List.range len).map D).length + ((List.range (m - len)).map fun j => D (len + j)).length) * P.bytesOf E := Nat.mul_le_mul (by omega) bE
      simp only [reachBytes] at h1
      simp only [List.length_map, List.length_range] at h1 h2 ⊢
      omega
end
theorem co22 : Tryd.prog.cellsOf 22 = 1 := by kernel_rfl
theorem co46 : Tryd.prog.cellsOf 46 = 1 := by kernel_rfl
theorem co77 : Tryd.prog.cellsOf 77 = 7 := by kernel_rfl
theorem by77 : 1 ≤ Tryd.prog.bytesOf 77 := of_decide_eq_true (by kernel_rfl)
set_option maxRecDepth 100000 in
theorem open_ops {H : Type} {enc : TypeId × Value → H} {W : World} {base : Nat} {v : Value} {d : DataW H} {p : List MemPlace}
    (hv : Value.okWide Tryd.prog W .any base 69 v) (h : DataW.Trod enc Tryd.prog W 0 (fun _ => true) true 69 v d p) (hw : ∀ x ∈ d.weights Tryd.prog 69, x ≤ reachBytes) : ∃ ops, OpsAt W v ops ∧ ops.length ≤ 140737488351232 := by
  obtain ⟨a0, len, cap, rfl⟩ := okWide_slice Tryd.underlying69 hv
  obtain ⟨fuel, hf⟩ := h
  exact ops_of_trod Tryd.underlying69 co77 by77 Tryd.underlying77 rfl rfl rfl rfl rfl rfl rfl rfl rfl rfl rfl rfl rfl rfl Tryd.underlying3 co3 Tryd.underlying22 co22 Tryd.underlying46 co46 Tryd.underlying5 co5 (by rw [by3]; omega) (by rw [by5]; omega) hf hw
theorem weights_le {H : Type} {ts : List TypeId} {ds : List (DataW H)} (hsz : (DataW.weightsEach Tryd.prog ts ds).all (· ≤ reachBytes) = true) {j : Nat} {t : TypeId} {d : DataW H} (ht : ts[j]? = some t) (hd : ds[j]? = some d) : ∀ x ∈ d.weights Tryd.prog t, x ≤ reachBytes := fun x hx => by
  simpa using List.all_eq_true.1 hsz x (DataW.weights_mem_each ht hd x hx)
end Go.Proofs.YtmkbbekeimnajaaDoor
