/- texts of this proof, one behind the other: Fr Tbl Opn -/
import Derived.Test.YtmkbbekeimnajaaDoorMMemory0
import Derived.Test.YtmkbbekeimnajaaDoorMMemory1
import Derived.Test.YtmkbbekeimnajaaDoorMMemory2
import Derived.Test.YtmkbbekeimnajaaDoorMMemory3
import Derived.Test.YtmkbbekeimnajaaDoorMMemory4
import Derived.Test.YtmkbbekeimnajaaDoorMMemory5
import Derived.Test.YtmkbbekeimnajaaDoorMMemory6
import Derived.Test.YtmkbbekeimnajaaDoorMMemory7
import Derived.Test.YtmkbbekeimnajaaDoorMMemory8
import Derived.Test.YtmkbbekeimnajaaDoorMMemory9
import Derived.Test.YtmkbbekeimnajaaDoorMMemory10
import Derived.Test.YtmkbbekeimnajaaDoorMMemory11
import Derived.Test.YtmkbbekeimnajaaDoorMMemory12
import Derived.Test.YtmkbbekeimnajaaDoorMMemory13
import Derived.Test.YtmkbbekeimnajaaDoorMMemory14
import Derived.Test.YtmkbbekeimnajaaDoorMMemory15
import Derived.Test.YtmkbbekeimnajaaDoorMMemory16
import Derived.Test.YtmkbbekeimnajaaDoorMMemory17
import Derived.Test.YtmkbbekeimnajaaDoorCards
import Derived.Test.YtmkbbekeimnajaaDoorTie
import Derived.ProofKit
import Derived.OpenShut
import Derived.Deep.DeepHandedRow
import Derived.LaidMore
import Derived.LaidHandle
import Derived.Stop.LaidErr
import Derived.SizedLaws
import Derived.Lib.LaidTab
/-! Fr: what the laws of the seat share: closed facts, the errors and the table off a row, the post -/
namespace Go.Proofs.YtmkbbekeimnajaaDoor
open Go Go.ChangeShapes Go.WideShapes Go.ChangeAt Go.RowKit Ds
theorem facts_of {P : Program} {f : FuncId} {fn : Func} {s : ChangeSpec} {c : OpenClaim}
    (k0 : (c.wf (OpenSpec.ofChange s)) = true)
    (k1 : (laidOutB P) = true)
    (k2 : (mapsRowed P) = true)
    (k3 : (fn.params.all (P.readableRec ·)) = true)
    (k4 : (namedTie P c.named s.vars) = true)
    (k5 : ((c.stops == [])) = true)
    (k6 : ((P.stops == [])) = true)
    (k7 : ((c.knobs == [])) = true)
    (k8 : ((P.stopKnobs == [])) = true)
    (k9 : ((c.inPlace == P.inPlace f)) = true)
    (k10 : ((c.unfollowed == P.unfollowed f)) = true)
    (k11 : ((c.recurses == P.recurses f)) = true)
    (k12 : ((c.named == P.varsNamed f)) = true)
    (k13 : ((c.maps == (fn.params.toList ++ s.plain.varTypes P).any (P.mapsRec ·))) = true)
    (k14 : ((c.ifaces == (fn.params.toList ++ s.plain.varTypes P).any (P.ifacesRec ·))) = true)
    (k15 : ((c.mapsOut == P.mapsAmong fn.resultTypes.toList)) = true)
    (k16 : ((c.loops == (fn.params.toList ++ s.plain.varTypes P).any (P.loopsFrom ·))) = true)
    (k17 : ((c.wideKeys == (fn.params.toList ++ s.plain.varTypes P ++ fn.resultTypes.toList).any (P.wideKeysFrom ·))) = true)
    (k18 : (s.vars.all (P.varReadable ·)) = true)
    (k19 : (fn.resultTypes.all (fun t => P.readableRec t && decide (t < P.types.size))) = true)
    (k20 : ((c.ifacesOut == fn.resultTypes.toList.any (P.ifacesRec ·))) = true)
    (k21 : ((c.loopsOut == fn.resultTypes.toList.any (P.loopsFrom ·))) = true)
    (k22 : ((c.plainKeys == P.plainKeys)) = true)
    (k23 : (c.shortTexts.isNone) = true)
    (k24 : (P.stopsHeard) = true)
    (k25 : (P.mayEnter) = true)
    (k26 : ((c.lifted == P.liftsFinal)) = true)
    (k27 : ((P.make == some c.make)) = true)
    (k28 : ((c.kinds == (if c.domain.isEmpty then [] else fn.params.toList.map fun t => match P.underlying t with | some (.int k) => some k | _ => none))) = true)
    (k29 : ((c.pinned == c.pinnedBy)) = true)
    (k30 : ((c.veiled == (fn.params.toList ++ s.plain.varTypes P ++ fn.resultTypes.toList).any (P.veiledRec ·))) = true)
    (k31 : (c.veiledFits P fn.params.toList (fn.params.toList ++ s.plain.varTypes P ++ fn.resultTypes.toList)) = true)
    : joinedFacts P f fn s c = true := by
  simp only [joinedFacts, Bool.and_eq_true]
  exact ⟨⟨⟨⟨⟨⟨⟨⟨⟨⟨⟨⟨⟨⟨⟨⟨⟨⟨⟨⟨⟨⟨⟨⟨⟨⟨⟨⟨⟨⟨⟨k0, k1⟩, k2⟩, k3⟩, k4⟩, k5⟩, k6⟩, k7⟩, k8⟩, k9⟩, k10⟩, k11⟩, k12⟩, k13⟩, k14⟩, k15⟩, k16⟩, k17⟩, k18⟩, k19⟩, k20⟩, k21⟩, k22⟩, k23⟩, k24⟩, k25⟩, k26⟩, k27⟩, k28⟩, k29⟩, k30⟩, k31⟩
theorem Tryd.laidOut : (laidOutB Tryd.prog) = true := by kernel_rfl
theorem Tryd.rowed : (mapsRowed Tryd.prog) = true := by kernel_rfl
theorem Tryd.noStops : ((Tryd.prog.stops == [])) = true := by kernel_rfl
theorem Tryd.noKnobs : ((Tryd.prog.stopKnobs == [])) = true := by kernel_rfl
theorem Tryd.heard : (Tryd.prog.stopsHeard) = true := by kernel_rfl
theorem Tryd.mayEnter : (Tryd.prog.mayEnter) = true := by kernel_rfl
theorem Tryd.keys : Tryd.prog.plainKeys = Rows.docsetItersRow.plainKeys := by kernel_rfl
theorem Tryd.lifts : Tryd.prog.liftsFinal = Rows.docsetItersRow.lifted := by kernel_rfl
theorem Tryd.makes : Tryd.prog.make = some Rows.docsetItersRow.make := by kernel_rfl
theorem own : ownKnob Tryd.prog.godebug = none := by kernel_rfl
theorem laidOut : laidOutB Tryd.prog = true := by kernel_rfl
theorem below_trodAll {H : Type} {enc : TypeId × Value → H} {P : Program} (hl : laidOutB P = true) {W W' : World} (hb : Below W.heap.size W W') (ts : List TypeId) : ∀ {vs : List Value} {ds : List (DataW H)} {ps : List MemPlace},
    ts.all (fun t => P.readableRec t && decide (t < P.types.size)) = true → DataW.TrodAll enc P W 0 (fun _ => true) true ts vs ds ps → (∀ x ∈ ps, x.block < W.heap.size) →
    DataW.TrodAll enc P W' 0 (fun b => decide (b < W.heap.size)) true ts vs ds ps := by
  induction ts with
  | nil =>
    intro vs ds ps _ h _
    obtain ⟨rfl, rfl, rfl⟩ := trodAll_nil h
    exact trodAll_mk0
  | cons t ts ih =>
    intro vs ds ps ht h hlt
    obtain ⟨v, vs', d, ds', p, q, rfl, rfl, rfl, h1, h2⟩ := trodAll_cons h
    simp only [List.all_cons, Bool.and_eq_true, decide_eq_true_eq] at ht
    exact trodAll_cons_mk (Below.trod hl ht.1.1 ht.1.2 h1 hb (fun x hx => hlt x (by simp [hx]))) (ih ht.2 h2 (fun x hx => hlt x (by simp [hx])))

/-- THE POST of every law: it answered true, and nothing that was there has turned -/
theorem law_post {H : Type} {enc : TypeId × Value → H} {s : ChangeSpec} {fn : Func} {W W' : World} {args : Array Value} {ds : List (DataW H)} {before : List MemPlace}
    (hW : DataW.Whole enc Tryd.prog fn.params.toList s.vars false W args.toList ds [] before) (hv : s.vars = []) (hfn : s.fn H (ds ++ []) = { results := [.lit (.bool true)], args := ds }) (hr : fn.resultTypes = #[4])
    (hts : fn.params.toList.all (fun t => Tryd.prog.readableRec t && decide (t < Tryd.prog.types.size)) = true) (hb : Below W.heap.size W W') :
    s.post enc Tryd.prog fn false true false false W args (.bool true) W' := by
  have hW' := hW
  obtain ⟨p, q, hA0, hV, rfl, hfz, hnd⟩ := hW
  have hA : DataW.TrodAll enc Tryd.prog W 0 (fun _ => true) true fn.params.toList args.toList ds p := hA0
  rw [hv] at hV
  obtain ⟨_, rfl⟩ := trodVars_none hV
  refine ⟨ds, [], _, [], p, [], hW', ?_, ?_, ?_, hb.frame _, fun h => by cases h⟩
  · rw [hfn, hr]
    exact trodAll_cons_mk (shut_bool Tryd.underlying4 true) trodAll_mk0
  · rw [hfn]
    exact below_trodAll laidOut hb _ hts hA (fun x hx => by simpa using hW'.lt x (by simp [hx]))
  · rw [hv, hfn]
    rfl
theorem star : "*" ++ "errors.errorString" = "*errors.errorString" := by decide
theorem row153 (u : TypeId) (h : Tryd.prog.typeName? 3 u = some "*errors.errorString") : u = 153 :=
  typeName_ptr_named (nm := "errors.errorString") (by rw [star]; kernel_rfl) (by kernel_rfl) (by decide) u (by rw [star]; exact h)
theorem c170 : Tryd.prog.cellsOf 170 = 1 := by kernel_rfl
theorem c9 : Tryd.prog.cellsOf 9 = 1 := by kernel_rfl

/-- a listed variable is read, wherever it stands on the list -/
theorem laid_mem {P : Program} {W : World} {l : List (String × DataW Unit)} (h : laidMet P l W) {n : String} {d : DataW Unit} (hm : (n, d) ∈ l) : ∃ r, laidMet P ((n, d) :: r) W := by
  induction l with
  | nil => cases hm
  | cons x r ih =>
    rcases List.mem_cons.1 hm with rfl | hm
    · exact ⟨r, h⟩
    · exact ih h.tail hm

/-- what a listed error reads as -/
theorem laid_err_any {P : Program} {n nm : String} {text : List UInt8} {r : List (String × DataW Unit)} {W : World} {g : Nat} {ti tp te ts : TypeId} {ms : Array (String × TypeId)} {f : Field}
    (h : laidMet P ((n, .iface nm (.ptr (.agg [.lit (.string text)]))) :: r) W)
    (hg : P.globalNamed n = some g) (ht : (P.globals[g]?).map (·.type) = some ti) (hi : P.underlying ti = some (.interface ms)) (hrow : ∀ u, P.typeName? 3 u = some nm → u = tp)
    (hp : P.underlying tp = some (.pointer te)) (he : P.underlying te = some (.struct #[f])) (hft : f.type = ts) (hfo : f.offset = 0) (hs : P.underlying ts = some .string) (hc : P.cellsOf te = 1) (hcs : P.cellsOf ts = 1) :
    ∃ (a : Addr) (s : ByteArray), W.cell? ⟨g, 0, none⟩ = some (.iface tp (.pointer (some a))) ∧ W.cell? a = some (.string s) ∧ s.data.toList = text ∧ ∃ c t, W.heap[a.block]? = some (.cells c t (0, 0)) := by
  obtain ⟨ps, ⟨g0, t0, cs0, f0, p0, q0, hg0, ht0, hv0, hd0, _, e0⟩, _, hrows⟩ := h
  obtain rfl := Option.some.inj (hg.symm.trans hg0)
  obtain rfl := Option.some.inj (ht.symm.trans ht0)
  subst e0
  obtain ⟨l0⟩ := cs0
  have ok0 : ∀ u v, l0 = [.iface u v] → Value.okWide P W .any 0 u v := fun u v e => by
    subst e
    exact (hrows g 0 (by simp [MemPlace.row])).2 u v (by simpa using World.var?_cell hg0 hv0 0)
  obtain ⟨a0, s0, rfl, hc0, hs0, _, hpp⟩ := errorString_of_trod hi hrow hp he hft hfo hs hc hcs hd0 ok0
  refine ⟨a0, s0, by simpa using World.var?_cell hg0 hv0 0, hc0, hs0, ?_⟩
  subst hpp
  exact (hrows a0.block a0.off (by simp [MemPlace.row])).1
theorem laid_err {W : World} {n : String} {text : List UInt8} {r : List (String × DataW Unit)} {g : Nat} (h : laidMet Tryd.prog ((n, .iface "*errors.errorString" (.ptr (.agg [.lit (.string text)]))) :: r) W)
    (hg : Tryd.prog.globalNamed n = some g) (ht : (Tryd.prog.globals[g]?).map (·.type) = some 26) :
    ∃ (a : Addr) (s : ByteArray), ErrAt W g a ∧ W.cell? a = some (.string s) ∧ s.data.toList = text ∧ ∃ c t, W.heap[a.block]? = some (.cells c t (0, 0)) :=
  laid_err_any h hg ht Tryd.underlying26 row153 Tryd.underlying153 Tryd.underlying170 rfl rfl Tryd.underlying9 c170 c9
def errText : Nat → List UInt8
  | 0 => [99, 111, 110, 99, 111, 114, 100, 58, 32, 114, 97, 110, 103, 101]
  | 1 => [99, 111, 110, 99, 111, 114, 100, 58, 32, 99, 111, 114, 114, 117, 112, 116]
  | 2 => [99, 111, 110, 99, 111, 114, 100, 58, 32, 116, 111, 111, 32, 115, 104, 111, 114, 116]
  | 3 => [99, 111, 110, 99, 111, 114, 100, 58, 32, 118, 97, 114, 105, 110, 116]
  | 4 => [99, 111, 110, 99, 111, 114, 100, 58, 32, 108, 105, 109, 105, 116]
  | 5 => [99, 111, 110, 99, 111, 114, 100, 58, 32, 111, 114, 100, 101, 114]
  | 6 => [99, 111, 110, 99, 111, 114, 100, 58, 32, 116, 97, 105, 108]
  | 7 => [99, 111, 110, 99, 111, 114, 100, 58, 32, 116, 97, 103]
  | 8 => [99, 111, 110, 99, 111, 114, 100, 58, 32, 115, 117, 109]
  | 9 => [99, 111, 110, 99, 111, 114, 100, 58, 32, 115, 105, 122, 101]
  | 10 => [99, 111, 110, 99, 111, 114, 100, 58, 32, 115, 99, 104, 101, 109, 97]
  | 11 => [99, 111, 110, 99, 111, 114, 100, 58, 32, 102, 105, 101, 108, 100]
  | 12 => [99, 111, 110, 99, 111, 114, 100, 58, 32, 118, 97, 108, 117, 101]
  | 13 => [99, 111, 110, 99, 111, 114, 100, 58, 32, 112, 97, 116, 116, 101, 114, 110]
  | 14 => [99, 111, 110, 99, 111, 114, 100, 58, 32, 115, 116, 97, 116, 101, 115]
  | 16 => [99, 111, 110, 99, 111, 114, 100, 58, 32, 115, 121, 110, 116, 97, 120]
  | 17 => [99, 111, 110, 99, 111, 114, 100, 58, 32, 116, 111, 111, 32, 100, 101, 101, 112]
  | 18 => [99, 111, 110, 99, 111, 114, 100, 58, 32, 110, 111, 100, 101]
  | 19 => [99, 111, 110, 99, 111, 114, 100, 58, 32, 116, 111, 111, 32, 109, 97, 110, 121, 32, 116, 101, 114, 109, 115]
  | 20 => [99, 111, 110, 99, 111, 114, 100, 58, 32, 115, 99, 111, 114, 101, 32, 111, 118, 101, 114, 102, 108, 111, 119]
  | 21 => [99, 111, 110, 99, 111, 114, 100, 58, 32, 99, 111, 100, 101]
  | 22 => [99, 111, 110, 99, 111, 114, 100, 58, 32, 102, 117, 101, 108]
  | 23 => [99, 111, 110, 99, 111, 114, 100, 58, 32, 100, 111, 99, 117, 109, 101, 110, 116]
  | 24 => [99, 111, 110, 99, 111, 114, 100, 58, 32, 99, 111, 109, 109, 97, 110, 100]
  | _ => []
/-- one error's reading -/
def ErrRead (W : World) (g : Nat) : Prop := ∃ (a : Addr) (s : ByteArray), ErrAt W g a ∧ W.cell? a = some (.string s) ∧ s.data.toList = errText g ∧ ∃ c t, W.heap[a.block]? = some (.cells c t (0, 0))
theorem errs_of_reads {W : World} {ids : List Nat} (h : ∀ g ∈ ids, ErrRead W g) (hd : ∀ g ∈ ids, ∀ k ∈ ids, g ≠ k → errText g ≠ errText k) : ∃ E, Errs W E ids := by
  have hs : ∀ g : Nat, ∃ a : Addr, g ∈ ids → ∃ s : ByteArray, ErrAt W g a ∧ W.cell? a = some (.string s) ∧ s.data.toList = errText g ∧ ∃ c t, W.heap[a.block]? = some (.cells c t (0, 0)) := fun g => by
    by_cases hg : g ∈ ids
    · obtain ⟨a, s, h1⟩ := h g hg
      exact ⟨a, fun _ => ⟨s, h1⟩⟩
    · exact ⟨default, fun hh => absurd hh hg⟩
  obtain ⟨E, hE⟩ := Classical.axiomOfChoice hs
  refine ⟨E, fun g hg => ?_, fun g hg => ?_, fun g hg k hk hne e => ?_⟩
  · obtain ⟨s, h1, _⟩ := hE g hg
    exact h1
  · obtain ⟨s, _, _, _, h4⟩ := hE g hg
    exact h4
  · obtain ⟨s, _, h2, h3, _⟩ := hE g hg
    obtain ⟨s', _, h2', h3', _⟩ := hE k hk
    rw [e] at h2
    have e2 := Option.some.inj (h2.symm.trans h2')
    simp only [Value.string.injEq] at e2
    exact hd g hg k hk hne (h3.symm.trans ((congrArg (fun b : ByteArray => b.data.toList) e2).trans h3'))
theorem texts_apart : ∀ g ∈ allErrs, ∀ k ∈ allErrs, g ≠ k → errText g ≠ errText k := by decide +kernel
theorem gE0 : Tryd.prog.globalNamed "concord/api.ErrRange" = some 0 := by kernel_rfl
theorem tE0 : (Tryd.prog.globals[0]?).map (·.type) = some 26 := by kernel_rfl
theorem read0 {W : World} {l : List (String × DataW Unit)} (h : laidMet Tryd.prog l W) (hm : ("concord/api.ErrRange", Rows.laid_concord_api_ErrRange) ∈ l) : ErrRead W 0 := by
  obtain ⟨r, h1⟩ := laid_mem h hm
  exact laid_err (text := errText 0) h1 gE0 tE0
theorem gE1 : Tryd.prog.globalNamed "concord/api.ErrCorrupt" = some 1 := by kernel_rfl
theorem tE1 : (Tryd.prog.globals[1]?).map (·.type) = some 26 := by kernel_rfl
theorem read1 {W : World} {l : List (String × DataW Unit)} (h : laidMet Tryd.prog l W) (hm : ("concord/api.ErrCorrupt", Rows.laid_concord_api_ErrCorrupt) ∈ l) : ErrRead W 1 := by
  obtain ⟨r, h1⟩ := laid_mem h hm
  exact laid_err (text := errText 1) h1 gE1 tE1
theorem gE2 : Tryd.prog.globalNamed "concord/api.ErrShort" = some 2 := by kernel_rfl
theorem tE2 : (Tryd.prog.globals[2]?).map (·.type) = some 26 := by kernel_rfl
theorem read2 {W : World} {l : List (String × DataW Unit)} (h : laidMet Tryd.prog l W) (hm : ("concord/api.ErrShort", Rows.laid_concord_api_ErrShort) ∈ l) : ErrRead W 2 := by
  obtain ⟨r, h1⟩ := laid_mem h hm
  exact laid_err (text := errText 2) h1 gE2 tE2
theorem gE3 : Tryd.prog.globalNamed "concord/api.ErrVarint" = some 3 := by kernel_rfl
theorem tE3 : (Tryd.prog.globals[3]?).map (·.type) = some 26 := by kernel_rfl
theorem read3 {W : World} {l : List (String × DataW Unit)} (h : laidMet Tryd.prog l W) (hm : ("concord/api.ErrVarint", Rows.laid_concord_api_ErrVarint) ∈ l) : ErrRead W 3 := by
  obtain ⟨r, h1⟩ := laid_mem h hm
  exact laid_err (text := errText 3) h1 gE3 tE3
theorem gE4 : Tryd.prog.globalNamed "concord/api.ErrLimit" = some 4 := by kernel_rfl
theorem tE4 : (Tryd.prog.globals[4]?).map (·.type) = some 26 := by kernel_rfl
theorem read4 {W : World} {l : List (String × DataW Unit)} (h : laidMet Tryd.prog l W) (hm : ("concord/api.ErrLimit", Rows.laid_concord_api_ErrLimit) ∈ l) : ErrRead W 4 := by
  obtain ⟨r, h1⟩ := laid_mem h hm
  exact laid_err (text := errText 4) h1 gE4 tE4
theorem gE5 : Tryd.prog.globalNamed "concord/api.ErrOrder" = some 5 := by kernel_rfl
theorem tE5 : (Tryd.prog.globals[5]?).map (·.type) = some 26 := by kernel_rfl
theorem read5 {W : World} {l : List (String × DataW Unit)} (h : laidMet Tryd.prog l W) (hm : ("concord/api.ErrOrder", Rows.laid_concord_api_ErrOrder) ∈ l) : ErrRead W 5 := by
  obtain ⟨r, h1⟩ := laid_mem h hm
  exact laid_err (text := errText 5) h1 gE5 tE5
theorem gE6 : Tryd.prog.globalNamed "concord/api.ErrTail" = some 6 := by kernel_rfl
theorem tE6 : (Tryd.prog.globals[6]?).map (·.type) = some 26 := by kernel_rfl
theorem read6 {W : World} {l : List (String × DataW Unit)} (h : laidMet Tryd.prog l W) (hm : ("concord/api.ErrTail", Rows.laid_concord_api_ErrTail) ∈ l) : ErrRead W 6 := by
  obtain ⟨r, h1⟩ := laid_mem h hm
  exact laid_err (text := errText 6) h1 gE6 tE6
theorem gE7 : Tryd.prog.globalNamed "concord/api.ErrTag" = some 7 := by kernel_rfl
theorem tE7 : (Tryd.prog.globals[7]?).map (·.type) = some 26 := by kernel_rfl
theorem read7 {W : World} {l : List (String × DataW Unit)} (h : laidMet Tryd.prog l W) (hm : ("concord/api.ErrTag", Rows.laid_concord_api_ErrTag) ∈ l) : ErrRead W 7 := by
  obtain ⟨r, h1⟩ := laid_mem h hm
  exact laid_err (text := errText 7) h1 gE7 tE7
theorem gE8 : Tryd.prog.globalNamed "concord/api.ErrSum" = some 8 := by kernel_rfl
theorem tE8 : (Tryd.prog.globals[8]?).map (·.type) = some 26 := by kernel_rfl
theorem read8 {W : World} {l : List (String × DataW Unit)} (h : laidMet Tryd.prog l W) (hm : ("concord/api.ErrSum", Rows.laid_concord_api_ErrSum) ∈ l) : ErrRead W 8 := by
  obtain ⟨r, h1⟩ := laid_mem h hm
  exact laid_err (text := errText 8) h1 gE8 tE8
theorem gE9 : Tryd.prog.globalNamed "concord/api.ErrSize" = some 9 := by kernel_rfl
theorem tE9 : (Tryd.prog.globals[9]?).map (·.type) = some 26 := by kernel_rfl
theorem read9 {W : World} {l : List (String × DataW Unit)} (h : laidMet Tryd.prog l W) (hm : ("concord/api.ErrSize", Rows.laid_concord_api_ErrSize) ∈ l) : ErrRead W 9 := by
  obtain ⟨r, h1⟩ := laid_mem h hm
  exact laid_err (text := errText 9) h1 gE9 tE9
theorem gE10 : Tryd.prog.globalNamed "concord/api.ErrSchema" = some 10 := by kernel_rfl
theorem tE10 : (Tryd.prog.globals[10]?).map (·.type) = some 26 := by kernel_rfl
theorem read10 {W : World} {l : List (String × DataW Unit)} (h : laidMet Tryd.prog l W) (hm : ("concord/api.ErrSchema", Rows.laid_concord_api_ErrSchema) ∈ l) : ErrRead W 10 := by
  obtain ⟨r, h1⟩ := laid_mem h hm
  exact laid_err (text := errText 10) h1 gE10 tE10
theorem gE11 : Tryd.prog.globalNamed "concord/api.ErrField" = some 11 := by kernel_rfl
theorem tE11 : (Tryd.prog.globals[11]?).map (·.type) = some 26 := by kernel_rfl
theorem read11 {W : World} {l : List (String × DataW Unit)} (h : laidMet Tryd.prog l W) (hm : ("concord/api.ErrField", Rows.laid_concord_api_ErrField) ∈ l) : ErrRead W 11 := by
  obtain ⟨r, h1⟩ := laid_mem h hm
  exact laid_err (text := errText 11) h1 gE11 tE11
theorem gE12 : Tryd.prog.globalNamed "concord/api.ErrValue" = some 12 := by kernel_rfl
theorem tE12 : (Tryd.prog.globals[12]?).map (·.type) = some 26 := by kernel_rfl
theorem read12 {W : World} {l : List (String × DataW Unit)} (h : laidMet Tryd.prog l W) (hm : ("concord/api.ErrValue", Rows.laid_concord_api_ErrValue) ∈ l) : ErrRead W 12 := by
  obtain ⟨r, h1⟩ := laid_mem h hm
  exact laid_err (text := errText 12) h1 gE12 tE12
theorem gE13 : Tryd.prog.globalNamed "concord/api.ErrPattern" = some 13 := by kernel_rfl
theorem tE13 : (Tryd.prog.globals[13]?).map (·.type) = some 26 := by kernel_rfl
theorem read13 {W : World} {l : List (String × DataW Unit)} (h : laidMet Tryd.prog l W) (hm : ("concord/api.ErrPattern", Rows.laid_concord_api_ErrPattern) ∈ l) : ErrRead W 13 := by
  obtain ⟨r, h1⟩ := laid_mem h hm
  exact laid_err (text := errText 13) h1 gE13 tE13
theorem gE14 : Tryd.prog.globalNamed "concord/api.ErrStates" = some 14 := by kernel_rfl
theorem tE14 : (Tryd.prog.globals[14]?).map (·.type) = some 26 := by kernel_rfl
theorem read14 {W : World} {l : List (String × DataW Unit)} (h : laidMet Tryd.prog l W) (hm : ("concord/api.ErrStates", Rows.laid_concord_api_ErrStates) ∈ l) : ErrRead W 14 := by
  obtain ⟨r, h1⟩ := laid_mem h hm
  exact laid_err (text := errText 14) h1 gE14 tE14
theorem gE16 : Tryd.prog.globalNamed "concord/api.ErrSyntax" = some 16 := by kernel_rfl
theorem tE16 : (Tryd.prog.globals[16]?).map (·.type) = some 26 := by kernel_rfl
theorem read16 {W : World} {l : List (String × DataW Unit)} (h : laidMet Tryd.prog l W) (hm : ("concord/api.ErrSyntax", Rows.laid_concord_api_ErrSyntax) ∈ l) : ErrRead W 16 := by
  obtain ⟨r, h1⟩ := laid_mem h hm
  exact laid_err (text := errText 16) h1 gE16 tE16
theorem gE17 : Tryd.prog.globalNamed "concord/api.ErrDeep" = some 17 := by kernel_rfl
theorem tE17 : (Tryd.prog.globals[17]?).map (·.type) = some 26 := by kernel_rfl
theorem read17 {W : World} {l : List (String × DataW Unit)} (h : laidMet Tryd.prog l W) (hm : ("concord/api.ErrDeep", Rows.laid_concord_api_ErrDeep) ∈ l) : ErrRead W 17 := by
  obtain ⟨r, h1⟩ := laid_mem h hm
  exact laid_err (text := errText 17) h1 gE17 tE17
theorem gE18 : Tryd.prog.globalNamed "concord/api.ErrNode" = some 18 := by kernel_rfl
theorem tE18 : (Tryd.prog.globals[18]?).map (·.type) = some 26 := by kernel_rfl
theorem read18 {W : World} {l : List (String × DataW Unit)} (h : laidMet Tryd.prog l W) (hm : ("concord/api.ErrNode", Rows.laid_concord_api_ErrNode) ∈ l) : ErrRead W 18 := by
  obtain ⟨r, h1⟩ := laid_mem h hm
  exact laid_err (text := errText 18) h1 gE18 tE18
theorem gE19 : Tryd.prog.globalNamed "concord/api.ErrTerms" = some 19 := by kernel_rfl
theorem tE19 : (Tryd.prog.globals[19]?).map (·.type) = some 26 := by kernel_rfl
theorem read19 {W : World} {l : List (String × DataW Unit)} (h : laidMet Tryd.prog l W) (hm : ("concord/api.ErrTerms", Rows.laid_concord_api_ErrTerms) ∈ l) : ErrRead W 19 := by
  obtain ⟨r, h1⟩ := laid_mem h hm
  exact laid_err (text := errText 19) h1 gE19 tE19
theorem gE20 : Tryd.prog.globalNamed "concord/api.ErrScore" = some 20 := by kernel_rfl
theorem tE20 : (Tryd.prog.globals[20]?).map (·.type) = some 26 := by kernel_rfl
theorem read20 {W : World} {l : List (String × DataW Unit)} (h : laidMet Tryd.prog l W) (hm : ("concord/api.ErrScore", Rows.laid_concord_api_ErrScore) ∈ l) : ErrRead W 20 := by
  obtain ⟨r, h1⟩ := laid_mem h hm
  exact laid_err (text := errText 20) h1 gE20 tE20
theorem gE21 : Tryd.prog.globalNamed "concord/api.ErrCode" = some 21 := by kernel_rfl
theorem tE21 : (Tryd.prog.globals[21]?).map (·.type) = some 26 := by kernel_rfl
theorem read21 {W : World} {l : List (String × DataW Unit)} (h : laidMet Tryd.prog l W) (hm : ("concord/api.ErrCode", Rows.laid_concord_api_ErrCode) ∈ l) : ErrRead W 21 := by
  obtain ⟨r, h1⟩ := laid_mem h hm
  exact laid_err (text := errText 21) h1 gE21 tE21
theorem gE22 : Tryd.prog.globalNamed "concord/api.ErrFuel" = some 22 := by kernel_rfl
theorem tE22 : (Tryd.prog.globals[22]?).map (·.type) = some 26 := by kernel_rfl
theorem read22 {W : World} {l : List (String × DataW Unit)} (h : laidMet Tryd.prog l W) (hm : ("concord/api.ErrFuel", Rows.laid_concord_api_ErrFuel) ∈ l) : ErrRead W 22 := by
  obtain ⟨r, h1⟩ := laid_mem h hm
  exact laid_err (text := errText 22) h1 gE22 tE22
theorem gE23 : Tryd.prog.globalNamed "concord/api.ErrDoc" = some 23 := by kernel_rfl
theorem tE23 : (Tryd.prog.globals[23]?).map (·.type) = some 26 := by kernel_rfl
theorem read23 {W : World} {l : List (String × DataW Unit)} (h : laidMet Tryd.prog l W) (hm : ("concord/api.ErrDoc", Rows.laid_concord_api_ErrDoc) ∈ l) : ErrRead W 23 := by
  obtain ⟨r, h1⟩ := laid_mem h hm
  exact laid_err (text := errText 23) h1 gE23 tE23
theorem gE24 : Tryd.prog.globalNamed "concord/api.ErrCommand" = some 24 := by kernel_rfl
theorem tE24 : (Tryd.prog.globals[24]?).map (·.type) = some 26 := by kernel_rfl
theorem read24 {W : World} {l : List (String × DataW Unit)} (h : laidMet Tryd.prog l W) (hm : ("concord/api.ErrCommand", Rows.laid_concord_api_ErrCommand) ∈ l) : ErrRead W 24 := by
  obtain ⟨r, h1⟩ := laid_mem h hm
  exact laid_err (text := errText 24) h1 gE24 tE24
end Go.Proofs.YtmkbbekeimnajaaDoor

/-! Tbl: the table off the row -/
namespace Go.Proofs.YtmkbbekeimnajaaDoor
open Go Go.RowKit Ds
theorem gTab : Tryd.prog.globalNamed "math/bits.deBruijn64tab" = some 15 := by kernel_rfl
theorem tTab : (Tryd.prog.globals[15]?).map (·.type) = some 123 := by kernel_rfl
theorem debr_of_mem {W : World} {l : List (String × DataW Unit)} (h : laidMet Tryd.prog l W) (hm : ("math/bits.deBruijn64tab", Rows.laid_math_bits_deBruijn64tab) ∈ l) : DeBr W := by
  obtain ⟨r, h1⟩ := laid_mem h hm
  have ht : Go.Lib.TabIs Tryd.prog W "math/bits.deBruijn64tab" .u8 (Go.Lib.deBruijn64tab.map fun (n : Nat) => (n : Int)) := Go.Lib.tabIs_of_head gTab tTab Tryd.underlying123 Tryd.underlying5 (by kernel_rfl) (by kernel_rfl) h1
  intro j hj
  have := ht.cell gTab j (by simpa [Go.Lib.deBruijn64tab] using hj)
  rw [this]
  simp [List.getD, List.getElem?_map]
  cases hx : Go.Lib.deBruijn64tab[j]? <;> rfl
end Go.Proofs.YtmkbbekeimnajaaDoor

/-! Opn: arguments opened: numbers, bytes -/
namespace Go.Proofs.YtmkbbekeimnajaaDoor
open Go Go.ChangeShapes Go.WideShapes Go.ChangeAt Go.RowKit
theorem co3 : Tryd.prog.cellsOf 3 = 1 := by kernel_rfl
theorem co5 : Tryd.prog.cellsOf 5 = 1 := by kernel_rfl
theorem by3 : Tryd.prog.bytesOf 3 = 8 := by kernel_rfl
theorem by5 : Tryd.prog.bytesOf 5 = 1 := by kernel_rfl
/-- what was read has this length -/
def Len {H : Type} (d : DataW H) (n : Nat) : Prop := (d = .nil ∧ n = 0) ∨ ∃ elems sp, d = .slice elems sp ∧ elems.length = n
section
variable {H : Type} {enc : TypeId × Value → H} {P : Program} {W : World} {base : Nat} {spare : Nat → Bool} {held : Bool} {n : Nat} {v : Value} {d : DataW H} {p : List MemPlace}
theorem ints_of_trod {T E : TypeId} (hT : P.underlying T = some (.slice E)) (hE : P.underlying E = some (.int .i64)) (hC : P.cellsOf E = 1) (h : DataW.trod enc P W base spare held n T [v] = some (d, p)) :
    ∃ zs, Ints W v zs ∧ Len d zs.length := by
  rcases open_ints hT hE hC h with ⟨hcs, hx⟩ | ⟨a, len, cap, zs, hcs, hb, hl, hm, hz, hx, hc, hw⟩
  · simp only [List.cons.injEq, and_true] at hcs
    simp only [Prod.mk.injEq] at hx
    exact ⟨[], .inl ⟨hcs, rfl⟩, .inl ⟨hx.1, rfl⟩⟩
  · simp only [List.cons.injEq, and_true] at hcs
    simp only [Prod.mk.injEq] at hx
    have hlz : len ≤ zs.length := by rw [hz]; split <;> omega
    have hlen : (zs.take len).length = len := by simp; omega
    refine ⟨zs.take len, .inr ⟨a, cap, by rw [hlen]; exact hcs, by rw [hlen]; exact hl, by unfold maxLen at hm; omega, fun k x hk => ?_⟩, .inr ⟨_, _, hx.1, by simp [lits]⟩⟩
    obtain ⟨hkl, hz2⟩ := List.getElem?_eq_some_iff.1 hk
    simp at hkl hz2
    rw [hc k (by omega)]
    have e : zs.getD k 0 = x := by rw [List.getD_eq_getElem?_getD, List.getElem?_eq_getElem (by omega)]; exact hz2
    rw [e]
theorem bytes_of_trod {T E : TypeId} (hT : P.underlying T = some (.slice E)) (hE : P.underlying E = some (.int .u8)) (hC : P.cellsOf E = 1) (h : DataW.trod enc P W base spare held n T [v] = some (d, p)) :
    ∃ bs, Src W v bs ∧ Len d bs.length := by
  rcases open_ints hT hE hC h with ⟨hcs, hx⟩ | ⟨a, len, cap, zs, hcs, hb, hl, hm, hz, hx, hc, hw⟩
  · simp only [List.cons.injEq, and_true] at hcs
    simp only [Prod.mk.injEq] at hx
    exact ⟨[], ⟨by simp, .inl ⟨hcs, rfl⟩⟩, .inl ⟨hx.1, rfl⟩⟩
  · simp only [List.cons.injEq, and_true] at hcs
    simp only [Prod.mk.injEq] at hx
    have hlz : len ≤ zs.length := by rw [hz]; split <;> omega
    have hlen : ((zs.take len).map Int.toNat).length = len := by simp; omega
    have hin : ∀ z ∈ zs, 0 ≤ z ∧ z ≤ 255 := fun z hz => by
      have := hw z hz
      simp [Lit.wf, IntKind.min, IntKind.max, IntKind.signed, IntKind.bits] at this
      omega
    refine ⟨(zs.take len).map Int.toNat, ⟨?_, .inr ⟨a, cap, by rw [hlen]; exact hcs, by rw [hlen]; exact hl, by unfold maxLen at hm; omega, ?_⟩⟩, .inr ⟨_, _, hx.1, by simp [lits]⟩⟩
    · intro x hx
      obtain ⟨z, hz, rfl⟩ := List.mem_map.1 hx
      have := hin z (List.mem_of_mem_take hz)
      omega
    · intro k x hk
      simp only [List.getElem?_map, Option.map_eq_some_iff] at hk
      obtain ⟨z, hz, rfl⟩ := hk
      obtain ⟨hkl, hz2⟩ := List.getElem?_eq_some_iff.1 hz
      simp at hkl hz2
      have hmem : z ∈ zs := by rw [← hz2]; exact List.getElem_mem _
      have h0 := hin z hmem
      rw [hc k (by omega)]
      have e : zs.getD k 0 = z := by rw [List.getD_eq_getElem?_getD, List.getElem?_eq_getElem (by omega)]; exact hz2
      rw [e, Int.toNat_of_nonneg h0.1]
end
set_option maxRecDepth 100000 in
theorem open_nums {H : Type} {enc : TypeId × Value → H} {W : World} {base : Nat} {v : Value} {d : DataW H} {p : List MemPlace}
    (hv : Value.okWide Tryd.prog W .any base 22 v) (h : DataW.Trod enc Tryd.prog W 0 (fun _ => true) true 22 v d p) : ∃ zs, Ints W v zs ∧ Len d zs.length := by
  obtain ⟨a0, len, cap, rfl⟩ := okWide_slice Tryd.underlying22 hv
  obtain ⟨fuel, hf⟩ := h
  exact ints_of_trod Tryd.underlying22 Tryd.underlying3 co3 hf
set_option maxRecDepth 100000 in
theorem open_bytes {H : Type} {enc : TypeId × Value → H} {W : World} {base : Nat} {v : Value} {d : DataW H} {p : List MemPlace}
    (hv : Value.okWide Tryd.prog W .any base 46 v) (h : DataW.Trod enc Tryd.prog W 0 (fun _ => true) true 46 v d p) : ∃ bs, Src W v bs ∧ Len d bs.length := by
  obtain ⟨a0, len, cap, rfl⟩ := okWide_slice Tryd.underlying46 hv
  obtain ⟨fuel, hf⟩ := h
  exact bytes_of_trod Tryd.underlying46 Tryd.underlying5 co5 hf
/-- the reach pays for their number -/
theorem nums_reach {H : Type} {ts : List TypeId} {ds : List (DataW H)} (hsz : (DataW.weightsEach Tryd.prog ts ds).all (· ≤ reachBytes) = true) {j : Nat} {d : DataW H} {k : Nat} (ht : ts[j]? = some 22) (hd : ds[j]? = some d)
    (h : Len d k) : k * 8 ≤ 140737488351232 := by
  rcases h with ⟨_, rfl⟩ | ⟨elems, sp, rfl, hl⟩
  · simp
  · have := sized_slice hsz ht hd Tryd.underlying22
    rw [by3] at this
    simp only [reachBytes] at this
    omega
theorem bytes_reach {H : Type} {ts : List TypeId} {ds : List (DataW H)} (hsz : (DataW.weightsEach Tryd.prog ts ds).all (· ≤ reachBytes) = true) {j : Nat} {d : DataW H} {k : Nat} (ht : ts[j]? = some 46) (hd : ds[j]? = some d)
    (h : Len d k) : k ≤ 140737488351232 := by
  rcases h with ⟨_, rfl⟩ | ⟨elems, sp, rfl, hl⟩
  · simp
  · have := sized_slice hsz ht hd Tryd.underlying46
    rw [by5] at this
    simp only [reachBytes] at this
    omega
end Go.Proofs.YtmkbbekeimnajaaDoor
